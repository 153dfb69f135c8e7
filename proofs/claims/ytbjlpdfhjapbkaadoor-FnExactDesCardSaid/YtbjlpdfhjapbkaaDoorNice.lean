/- The contracts of toByteS, eqByteS, markByteS, heldByteS with plain functions: a copy, equality, marks, marks held. Conditions: lengths below 2^47, marks from 0 to 2^50. -/
import Derived.Test.YtbjlpdfhjapbkaaDoorBytes
namespace Go.Proofs.YtbjlpdfhjapbkaaDoor
open Go.RowKit Go.Proofs.YtbjlpdfhjapbkaaDoorW.PrintWords Go.Proofs.YtbjlpdfhjapbkaaDoorW.PrintLast Go.Proofs.YtbjlpdfhjapbkaaDoorW.PrintMore
set_option linter.unusedVariables false

theorem of_ite {α : Type} {c : Prop} [Decidable c] {x r : α} (h : (if c then some x else none) = some r) : c ∧ x = r := by
  by_cases hc : c
  · rw [if_pos hc] at h; exact ⟨hc, Option.some.inj h⟩
  · rw [if_neg hc] at h; cases h
def laws_toByteS.f (l0 : List Int) : Option (List Int) := if l0.length ≤ 140737488355328 then some l0 else none
theorem laws_toByteS.calls (A0 : Option Addr) (c0 : Nat) (l0 : List Int) (r : List Int) (w : World) (hr0 : Kd.C (Kd.int .u8) w A0 l0.length l0) (hc0 : l0.length ≤ c0) (h : laws_toByteS.f l0 = some r) :
    Calls Tryd.prog 19 #[.slice A0 l0.length c0] w fun e w' => ∃ v0_ : Value, e = .returned (v0_) ∧ Kd.R (Kd.int .u8) 5 w' w.heap.size (fun _ => True) v0_ r ∧ Below w.heap.size w w' := by
  obtain ⟨hl, rfl⟩ := of_ite h
  exact B.laws_toByteS.calls (l0.length + 1) A0 c0 l0 l0 w hr0 hc0 (B.toByteS_eq l0 hl _ (Nat.lt_succ_self _))
def laws_eqByteS.f (l0 l1 : List Int) : Option Bool := if l0.length ≤ 140737488355328 then some (decide (l0 = l1)) else none
theorem laws_eqByteS.calls (A0 : Option Addr) (c0 : Nat) (l0 : List Int) (A1 : Option Addr) (c1 : Nat) (l1 : List Int) (r : Bool) (w : World) (hr0 : Kd.C (Kd.int .u8) w A0 l0.length l0) (hc0 : l0.length ≤ c0) (hr1 : Kd.C (Kd.int .u8) w A1 l1.length l1) (hc1 : l1.length ≤ c1) (h : laws_eqByteS.f l0 l1 = some r) :
    Calls Tryd.prog 20 #[.slice A0 l0.length c0, .slice A1 l1.length c1] w fun e w' => e = .returned (.bool r) ∧ Drawn0 w w' := by
  obtain ⟨hl, rfl⟩ := of_ite h
  exact B.laws_eqByteS.calls (l0.length + 1) A0 c0 l0 A1 c1 l1 _ w hr0 hc0 hr1 hc1 (B.eqByteS_eq l0 l1 hl _ (Nat.lt_succ_self _))
def laws_markByteS.f (l0 : List Int) (a1 : Int) : Option (Int × List Int) := if l0.length ≤ 140737488355328 ∧ 0 ≤ a1 ∧ a1 ≤ 1125899906842624 then some (a1 + l0.length, B.marks a1 l0.length) else none
theorem laws_markByteS.calls (P0_ : Nat → Prop) (u9000_ : Value) (l0 : List Int) (a1 : Int) (r1 : Int) (r2 : List Int) (w0 w : World) (hB : Below w0.heap.size w0 w) (ho0 : Kd.R (Kd.int .u8) 5 w w0.heap.size P0_ u9000_ l0) (h : laws_markByteS.f l0 a1 = some (r1, r2)) :
    Calls Tryd.prog 21 #[u9000_, .int .i64 a1] w fun e w' => e = .returned (.int .i64 r1) ∧ Kd.R (Kd.int .u8) 5 w' w0.heap.size (fun k_ => (P0_ k_ ∨ w.heap.size ≤ k_)) u9000_ r2 ∧ Below w0.heap.size w0 w' ∧ Kept w w' (fun k_ => P0_ k_) := by
  obtain ⟨⟨hl, h0, h1⟩, h2⟩ := of_ite h
  refine B.laws_markByteS.calls (l0.length + 1) P0_ u9000_ l0 a1 r1 r2 w0 w hB ho0 ?_
  rw [B.markByteS_eq l0 a1 hl h0 (by omega) _ (Nat.lt_succ_self _)]
  exact congrArg some h2
def laws_heldByteS.f (l0 : List Int) (a1 : Int) : Option Int := if l0.length ≤ 140737488355328 ∧ 0 ≤ a1 ∧ a1 ≤ 1125899906842624 then some (if l0 = B.marks a1 l0.length then a1 + l0.length else -1) else none
theorem laws_heldByteS.calls (A0 : Option Addr) (c0 : Nat) (l0 : List Int) (a1 : Int) (r : Int) (w : World) (hr0 : Kd.C (Kd.int .u8) w A0 l0.length l0) (hc0 : l0.length ≤ c0) (h : laws_heldByteS.f l0 a1 = some r) :
    Calls Tryd.prog 22 #[.slice A0 l0.length c0, .int .i64 a1] w fun e w' => e = .returned (.int .i64 r) ∧ Drawn0 w w' := by
  obtain ⟨⟨hl, h0, h1⟩, rfl⟩ := of_ite h
  exact B.laws_heldByteS.calls (l0.length + 1) A0 c0 l0 a1 _ w hr0 hc0 (B.heldByteS_eq l0 a1 hl h0 (by omega) _ (Nat.lt_succ_self _))
end Go.Proofs.YtbjlpdfhjapbkaaDoor
