/- The law FnExactOddParity's plain statement: for each list of bytes the printed law answers true. Conditions: the list's length fits Go's, each number is a byte. -/
import Derived.Test.YtbjlpdfhjapbkaaOdd
namespace Go.Proofs.Ytbjlpdfhjapbkaa.Pure
open Go.RowKit Go.Proofs.Ytbjlpdfhjapbkaa.B Go.Proofs.YtbjlpdfhjapbkaaW.PrintWords Go.Proofs.YtbjlpdfhjapbkaaW.PrintLast

theorem byte_of_wf {x : Int} (h : (Lit.int .u8 x).wf = true) : 0 ≤ x ∧ x ≤ 255 := by
  have hmin : IntKind.u8.min = 0 := rfl
  have hmax : IntKind.u8.max = 255 := rfl
  simp only [Lit.wf, Bool.and_eq_true, decide_eq_true_eq] at h
  omega

theorem FnExactOddParity : laws_FnExactOddParity.Pure := by
  intro l hm hn hw
  have hb : ∀ x ∈ l, 0 ≤ x ∧ x ≤ 255 := fun x hx => byte_of_wf (hw x hx)
  clear hw hm
  refine ⟨10 * l.length + 10 + 1, ?_⟩
  unfold laws_FnExactOddParity.f
  by_cases hbig : (l.length : Int) > 1048576
  · rw [if_pos hbig]
  · rw [if_neg hbig]
    have hl : l.length ≤ 1048576 := by omega
    have ho := oddL_length l
    have hob : ∀ k, 10 * l.length < k → laws_eqByteS.f k (oddL l) (oddL l) = some true := fun k hk => by
      rw [eqByteS_eq _ _ (by omega) k (by omega)]; simp
    have hll : ∀ k, 10 * l.length < k → laws_eqByteS.f k l l = some true := fun k hk => by
      rw [eqByteS_eq _ _ (by omega) k (by omega)]; simp
    have hheld : ∀ k, 10 * l.length < k → laws_heldByteS.f k (marks 1 (oddL l).length) 1 = some (1 + ((oddL l).length : Int)) := fun k hk => held_marks 1 _ (by omega) (by omega) (by omega) k (by omega)
    rw [toByteS_eq l (by omega) _ (by omega), Option.bind_some, spec_odd_eq l (by omega) hb _ (by omega), Option.bind_some, Option.bind_some, impl_odd_eq l (by omega) hb _ (by omega), Option.bind_some,
      hob _ (by omega), Option.bind_some, if_pos rfl, Option.bind_some, hll _ (by omega), Option.bind_some, if_pos rfl, markByteS_eq l 1 (by omega) (by omega) (by omega) _ (by omega), Option.bind_some]
    simp only []
    rw [if_neg (by omega), Option.bind_some, laws_FnExactOddParity.j0, if_neg (by simp)]
    rw [markByteS_eq (oddL l) 1 (by omega) (by omega) (by omega) _ (by omega), Option.bind_some]
    simp only []
    rw [hheld _ (by omega), Option.bind_some, if_neg (by omega), if_pos rfl, toByteS_eq l (by omega) _ (by omega), Option.bind_some, impl_odd_eq l (by omega) hb _ (by omega), Option.bind_some,
      hob _ (by omega), Option.bind_some, if_pos rfl, Option.bind_some, if_neg (by omega), if_pos rfl]

end Go.Proofs.Ytbjlpdfhjapbkaa.Pure
