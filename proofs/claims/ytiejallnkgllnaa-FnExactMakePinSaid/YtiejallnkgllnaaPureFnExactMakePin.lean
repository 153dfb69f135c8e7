/- The law FnExactMakePin's plain statement: the printed law answers true. Conditions: numbers and texts within Go's bounds. -/
import Derived.Test.YtiejallnkgllnaaLPin3
import Derived.Test.YtiejallnkgllnaaPinB
namespace Go.Proofs.Ytiejallnkgllnaa.Pure
open Go.RowKit Go.Proofs.Ytiejallnkgllnaa.LPin Go.Proofs.YtiejallnkgllnaaW.PrintWords Go.Proofs.YtiejallnkgllnaaW.PrintLast Go.Proofs.Ytiejallnkgllnaa
set_option linter.unusedVariables false
theorem byte_of_wf {x : Int} (h : (Lit.int .u8 x).wf = true) : 0 ≤ x ∧ x ≤ 255 := by
  have hmin : IntKind.u8.min = 0 := rfl
  have hmax : IntKind.u8.max = 255 := rfl
  simp only [Lit.wf, Bool.and_eq_true, decide_eq_true_eq] at h
  omega
theorem pinBlk_length (ds : List Int) (pan : ByteArray) : (pinBlk ds pan).length = 8 := by
  unfold pinBlk
  rw [B.xorL_length _ _ (by rw [outN_length _ _ (by omega), outN_length _ _ (by omega)]; exact Nat.le_refl _), outN_length _ _ (by omega)]
theorem mpR_length (f : Int) (pin pan : ByteArray) (dr : List Int) : (mpR f pin pan dr).2.1.length ≤ 8 := by
  unfold mpR
  split
  · split
    · show (pinBlk _ _).length ≤ 8
      rw [pinBlk_length]
      exact Nat.le_refl _
    · split
      · show ([] : List Int).length ≤ 8
        exact Nat.zero_le _
      · show (pinBlk _ _).length ≤ 8
        rw [pinBlk_length]
        exact Nat.le_refl _
  · show ([] : List Int).length ≤ 8
    exact Nat.zero_le _
theorem FnExactMakePin : laws_FnExactMakePin.Pure := by
  intro a0 a1 a2 l3 h0 h1 h2 hm hn hw
  have hb : Go.Proofs.Ytiejallnkgllnaa.D.Bytes l3 := fun x hx => byte_of_wf (hw x hx)
  clear hw hm
  refine ⟨l3.length + 40, ?_⟩
  obtain ⟨k, hk⟩ : ∃ k, k = l3.length + 40 := ⟨_, rfl⟩
  rw [← hk]
  unfold laws_FnExactMakePin.f
  by_cases hb1 : (a1.size : Int) > 1048576
  · rw [if_pos hb1]
  rw [if_neg hb1]
  by_cases hb2 : (a2.size : Int) > 1048576
  · rw [if_pos hb2]
  rw [if_neg hb2]
  by_cases hb3 : (l3.length : Int) > 1048576
  · rw [if_pos hb3]
  rw [if_neg hb3]
  have hs : spec_MakePin.f a0 a1 a2 l3 = some (mpR a0 a1 a2 l3) := by rw [spec_MakePin.f, if_pos ⟨by omega, by omega, bytesB_mk hb⟩]
  have hi : impl_MakePin.f a0 a1 a2 l3 = some (mpR a0 a1 a2 l3) := by rw [impl_MakePin.f, if_pos ⟨by omega, by omega, bytesB_mk hb⟩]
  have hl := mpR_length a0 a1 a2 l3
  obtain ⟨⟨r1, r2, r3⟩, hr⟩ : ∃ r, r = mpR a0 a1 a2 l3 := ⟨_, rfl⟩
  rw [← hr] at hs hi hl
  replace hl : r2.length ≤ 8 := hl
  have ht : ∀ k, l3.length < k → laws_toByteS.f k l3 = some l3 := fun k hk => toByteS_eq l3 (by omega) k hk
  have hll : ∀ k, l3.length < k → laws_eqByteS.f k l3 l3 = some true := fun k hk => by
    rw [eqByteS_eq _ _ (by omega) k hk]; simp
  have he : ∀ k, 10 < k → laws_eqPinBlock.f k r1 r2 r3 r1 r2 r3 = some true := fun k hk => by
    rw [laws_eqPinBlock.f, if_pos rfl, eqByteS_eq _ _ (by omega) k (by omega), Option.bind_some]; simp
  have hmk : ∀ k, 10 < k → laws_markPinBlock.f k r1 r2 r3 1 = some (1 + (r2.length : Int), marks 1 r2.length) := fun k hk => by
    rw [laws_markPinBlock.f, markByteS_eq r2 1 (by omega) (by omega) (by omega) k (by omega), Option.bind_some]
  have hhd : ∀ k, 10 < k → laws_heldPinBlock.f k r1 (marks 1 r2.length) r3 1 = some (1 + (r2.length : Int)) := fun k hk => by
    rw [laws_heldPinBlock.f, held_marks 1 _ (by omega) (by omega) (by omega) k (by omega), Option.bind_some]
    first | rfl | (rw [if_neg (by omega)])
  obtain ⟨k', rfl⟩ : ∃ k', k = k' + 1 := ⟨k - 1, by omega⟩
  rw [ht _ (by omega), Option.bind_some, hs, Option.bind_some, Option.bind_some, hi, Option.bind_some]
  simp only []
  rw [he _ (by omega), Option.bind_some, if_pos rfl, Option.bind_some, hll _ (by omega), Option.bind_some, if_pos rfl, markByteS_eq l3 1 (by omega) (by omega) (by omega) _ (by omega), Option.bind_some]
  simp only []
  rw [if_neg (by omega), Option.bind_some, laws_FnExactMakePin.j0, if_neg (by simp), hmk _ (by omega), Option.bind_some]
  simp only []
  rw [hhd _ (by omega), Option.bind_some, if_neg (by omega), if_pos rfl, ht _ (by omega), Option.bind_some, hi, Option.bind_some]
  simp only []
  rw [he _ (by omega), Option.bind_some, if_pos rfl, Option.bind_some, if_neg (by omega), if_pos rfl]
end Go.Proofs.Ytiejallnkgllnaa.Pure
