/- A region that draws its order and may end in a panic: what is shown of a panic may leave the frame aside, but for one slot that the region does not write. -/
import Derived.Test.YtiejallnkgllnaaArr
import Derived.RegionTactic
import Derived.Deep.RegionWith
namespace Go.Proofs.Ytiejallnkgllnaa
open Go
set_option linter.unusedVariables false
/-- Q, with X in the place of what it asks of a panic. -/
def onPanic (X : List PanicEntry → Act → World → Prop) (Q : Exit → Act → World → Prop) : Exit → Act → World → Prop
  | .panic ch, a, w => X ch a w
  | e, a, w => Q e a w
section
variable {P : Program} {ops : Array Oper} {Q : Exit → Act → World → Prop} {X : List PanicEntry → Act → World → Prop} {s : Nat} {p : Value}
theorem put_slot {a : Act} {d : Option Tmp} {v : Value} (hd : d ≠ some s) (h : a.tmps.getD s undef = p) : (a.put d v).tmps.getD s undef = p := by
  cases d with
  | none => exact h
  | some d =>
    have hne : d ≠ s := fun e => hd (by rw [e])
    show (a.tmps.setIfInBounds d v).getD s undef = p
    rw [← h]
    simp [hne]
theorem upon_slot {o : Oper} {a : Act} {K K' : Act → World → Prop} (hd : o.dst ≠ some s) (hI : a.tmps.getD s undef = p) (hQ : ∀ ch a w, a.tmps.getD s undef = p → X ch a w → Q (.panic ch) a w) (hK : ∀ a w, a.tmps.getD s undef = p → K a w → K' a w) (r : Result Next) (h : o.upon P a K (onPanic X Q) r) : o.upon P a K' Q r := by
  cases r with
  | ok n w' =>
    cases n with
    | value v => exact hK _ _ (put_slot hd hI) h
    | skip => exact hK _ _ (put_slot hd hI) h
    | defer d => exact hK _ _ (put_slot (a := { a with defers := d :: a.defers }) hd hI) h
    | enter f args =>
      simp only [Oper.upon] at h ⊢
      refine Calls.mono h (fun e w'' he => ?_)
      cases e with
      | returned v => exact hK _ _ (put_slot hd hI) he
      | panicked chain => exact hQ _ _ _ hI he
      | outgrown => exact he
    | row row args =>
      simp only [Oper.upon] at h ⊢
      exact Rows.mono h (fun _ _ he => hK _ _ (put_slot hd hI) he)
    | _ => simp only [Oper.upon] at h
  | halt x w' =>
    cases x with
    | panic v => exact hQ _ _ _ hI h
    | _ => simp only [Oper.upon] at h
theorem wpOp_slot {i : Nat} {a : Act} {w : World} {K K' : Act → World → Prop} (hd : ∀ (i : Nat) (o : Oper), ops[i]? = some o → o.dst ≠ some s) (hI : a.tmps.getD s undef = p) (hQ : ∀ ch a w, a.tmps.getD s undef = p → X ch a w → Q (.panic ch) a w) (hK : ∀ a w, a.tmps.getD s undef = p → K a w → K' a w) (h : wpOp P ops (onPanic X Q) i K a w) : wpOp P ops Q i K' a w := by
  unfold wpOp at *
  cases ho : ops[i]? with
  | none => rw [ho] at h; exact hK _ _ hI h
  | some o =>
    rw [ho] at h
    simp only at h ⊢
    by_cases hw : Region.wanted o (yielded ops a.tmps) = true
    · rw [if_pos hw] at h ⊢
      rcases h with h | ⟨h1, a0, w0, h2⟩
      · exact .inl (upon_slot (hd i o ho) hI hQ hK _ h)
      · exact .inr ⟨h1, a0, w0, h2⟩
    · rw [if_neg hw] at h ⊢
      exact hK _ _ (put_slot (hd i o ho) hI) h
theorem wpAny_slot {md : Region.Mode} (hd : ∀ (i : Nat) (o : Oper), ops[i]? = some o → o.dst ≠ some s) (hQ : ∀ ch a w, a.tmps.getD s undef = p → X ch a w → Q (.panic ch) a w) : ∀ (fuel : Nat) (listed : Array Bool) (a : Act) (w : World), a.tmps.getD s undef = p → wpAny P md ops (onPanic X Q) fuel listed a w → wpAny P md ops Q fuel listed a w
  | 0, _, _, _, _, h => h
  | fuel + 1, listed, a, w, hI, h => ⟨h.1, fun i hi => wpOp_slot hd hI hQ (fun a w hI h => wpAny_slot hd hQ fuel _ a w hI h) (h.2 i hi)⟩
end
theorem dst_all {ops : Array Oper} {s : Nat} (h : (ops.all fun o => o.dst != some s) = true) : ∀ (i : Nat) (o : Oper), ops[i]? = some o → o.dst ≠ some s := by
  intro i o ho
  obtain ⟨hi, rfl⟩ := Array.getElem?_eq_some_iff.1 ho
  have := Array.all_eq_true.1 h i hi
  simpa using this
end Go.Proofs.Ytiejallnkgllnaa
