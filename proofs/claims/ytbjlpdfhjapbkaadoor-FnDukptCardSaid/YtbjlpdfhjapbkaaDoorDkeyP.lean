/- The contracts of spec.DukptKey and impl.DukptKey in the print's shape. Conditions stand in the functions '.f'. -/
import Derived.Test.YtbjlpdfhjapbkaaDoorDkey
namespace Go.Proofs.YtbjlpdfhjapbkaaDoor
open Go.RowKit Go.Proofs.YtbjlpdfhjapbkaaDoorW.PrintWords Go.Proofs.YtbjlpdfhjapbkaaDoorW.PrintLast Go.Proofs.YtbjlpdfhjapbkaaDoorW.PrintMore Go.Proofs.YtbjlpdfhjapbkaaDoor.D
set_option linter.unusedVariables false

set_option maxHeartbeats 1000000 in
theorem impl_DukptKey.calls0 (A0 : Option Addr) (c0 : Nat) (n0 : Nat) (A1 : Option Addr) (c1 : Nat) (n1 : Nat) (w : World) (h : ¬ (n0 = 16 ∧ n1 = 10)) :
    Calls Tryd.prog 32 #[.slice A0 n0 c0, .slice A1 n1 c1] w fun e w' => ∃ v0_ : Value, e = .returned (v0_) ∧ Kd.R (Kd.int .u8) 5 w' w.heap.size (fun _ => True) v0_ [] ∧ Below w.heap.size w w' := by
  by_cases h0 : n0 = 16
  · have b0 : ((n0 : Int) != 16) = false := by rw [bne_eq_false_iff_eq]; omega
    have b1 : ((n1 : Int) != 10) = true := by rw [bne_iff_ne]; omega
    clear h
    go_enter Tryd.func32, Tryd.ntmps32
    go_wp2
    go_step3
    go_wp2_with fail
    rw [Exit.noGoto_ret]
    go_ret
    exact ⟨_, rfl, empty_R _ _ rfl, (Below.refl _ _).alloc (Nat.le_refl _) _⟩
  · have b0 : ((n0 : Int) != 16) = true := by rw [bne_iff_ne]; omega
    clear h
    go_enter Tryd.func32, Tryd.ntmps32
    go_wp2
    go_step3
    go_wp2_with fail
    rw [Exit.noGoto_ret]
    go_ret
    exact ⟨_, rfl, empty_R _ _ rfl, (Below.refl _ _).alloc (Nat.le_refl _) _⟩
def spec_DukptKey.f (l0 l1 : List Int) : Option (List Int) := if bytesB l0 = true ∧ bytesB l1 = true then some (dukR l0 l1) else none
theorem spec_DukptKey.calls (A0 : Option Addr) (c0 : Nat) (l0 : List Int) (A1 : Option Addr) (c1 : Nat) (l1 : List Int) (r : List Int) (w : World) (hr0 : Kd.C (Kd.int .u8) w A0 l0.length l0) (hc0 : l0.length ≤ c0) (hr1 : Kd.C (Kd.int .u8) w A1 l1.length l1) (hc1 : l1.length ≤ c1) (h : spec_DukptKey.f l0 l1 = some r) :
    Calls Tryd.prog 31 #[.slice A0 l0.length c0, .slice A1 l1.length c1] w fun e w' => ∃ v0_ : Value, e = .returned (v0_) ∧ Kd.R (Kd.int .u8) 5 w' w.heap.size (fun _ => True) v0_ r ∧ Below w.heap.size w w' := by
  obtain ⟨⟨hb0, hb1⟩, rfl⟩ := of_ite h
  exact P.spec_DukptKey.calls 40 A0 c0 l0 A1 c1 l1 _ w hr0 hc0 hr1 hc1 (spec_DukptKey_eq l0 l1 (bytesB_of hb0) (bytesB_of hb1))
def impl_DukptKey.f (l0 l1 : List Int) : Option (List Int) := if bytesB l0 = true ∧ bytesB l1 = true then some (dukR l0 l1) else none
theorem impl_DukptKey.calls (A0 : Option Addr) (c0 : Nat) (l0 : List Int) (A1 : Option Addr) (c1 : Nat) (l1 : List Int) (r : List Int) (w : World) (hr0 : Kd.C (Kd.int .u8) w A0 l0.length l0) (hc0 : l0.length ≤ c0) (hr1 : Kd.C (Kd.int .u8) w A1 l1.length l1) (hc1 : l1.length ≤ c1) (h : impl_DukptKey.f l0 l1 = some r) (ht : Tab8 w) :
    Calls Tryd.prog 32 #[.slice A0 l0.length c0, .slice A1 l1.length c1] w fun e w' => ∃ v0_ : Value, e = .returned (v0_) ∧ Kd.R (Kd.int .u8) 5 w' w.heap.size (fun _ => True) v0_ r ∧ Below w.heap.size w w' := by
  obtain ⟨⟨hb0, hb1⟩, rfl⟩ := of_ite h
  unfold dukR
  by_cases hg : l0.length = 16 ∧ l1.length = 10
  · rw [if_pos hg]
    exact impl_DukptKey.calls16 A0 c0 l0 A1 c1 l1 w hr0 hc0 hr1 hc1 hg.1 (bytesB_of hb0) hg.2 (bytesB_of hb1) ht
  · rw [if_neg hg]
    exact impl_DukptKey.calls0 A0 c0 _ A1 c1 _ w hg
end Go.Proofs.YtbjlpdfhjapbkaaDoor
