/- FnExactDukptKey: the print answers true; the walk. -/
import Derived.Test.YtbjlpdfhjapbkaaDoorLDkey
import Derived.Test.YtbjlpdfhjapbkaaDoorDkeyP
namespace Go.Proofs.YtbjlpdfhjapbkaaDoor
open Go.RowKit Go.Proofs.YtbjlpdfhjapbkaaDoorW.PrintWords Go.Proofs.YtbjlpdfhjapbkaaDoorW.PrintLast Go.Proofs.YtbjlpdfhjapbkaaDoorW.PrintMore Go.Proofs.YtbjlpdfhjapbkaaDoor.D
set_option linter.unusedVariables false
namespace LDkey
theorem pure (l0 : List Int) (l1 : List Int) (hb0 : Bytes l0) (hb1 : Bytes l1) : ∃ k, laws_FnExactDukptKey.f k l0 l1 = some true := by
  refine ⟨1, ?_⟩
  unfold laws_FnExactDukptKey.f
  by_cases hbig0 : (l0.length : Int) > 1048576
  · rw [if_pos hbig0]
  · rw [if_neg hbig0]
    by_cases hbig1 : (l1.length : Int) > 1048576
    · rw [if_pos hbig1]
    · rw [if_neg hbig1]
      have s0 : spec_DukptKey.f l0 l1 = some (dukR l0 l1) := by rw [spec_DukptKey.f, if_pos (⟨bytesB_mk hb0, bytesB_mk hb1⟩)]
      have s1 : impl_DukptKey.f l0 l1 = some (dukR l0 l1) := by rw [impl_DukptKey.f, if_pos (⟨bytesB_mk hb0, bytesB_mk hb1⟩)]
      have hD : (dukR l0 l1).length ≤ 16 := dukR_length _ _ hb1
      obtain ⟨D, hDe⟩ : ∃ D : List Int, D = dukR l0 l1 := ⟨_, rfl⟩
      rw [← hDe] at s0 s1 hD
      clear hDe
      have c1_0 : laws_toByteS.f l0 = some l0 := by rw [laws_toByteS.f, if_pos (by omega)]
      have c4_0 : laws_eqByteS.f l0 l0 = some true := by rw [laws_eqByteS.f, if_pos (by omega)]; simp
      have c1_1 : laws_toByteS.f l1 = some l1 := by rw [laws_toByteS.f, if_pos (by omega)]
      have c4_1 : laws_eqByteS.f l1 l1 = some true := by rw [laws_eqByteS.f, if_pos (by omega)]; simp
      have c3 : laws_eqByteS.f D D = some true := by rw [laws_eqByteS.f, if_pos (by omega)]; simp
      have c5_0 : laws_markByteS.f l0 (1) = some (1 + (l0.length : Int), B.marks (1) l0.length) := by rw [laws_markByteS.f, if_pos ⟨by omega, by omega, by omega⟩]
      have c5_1 : laws_markByteS.f l1 (1 + (l0.length : Int)) = some (1 + (l0.length : Int) + (l1.length : Int), B.marks (1 + (l0.length : Int)) l1.length) := by rw [laws_markByteS.f, if_pos ⟨by omega, by omega, by omega⟩]
      have c6 : laws_markByteS.f D 1 = some (1 + (D.length : Int), B.marks 1 D.length) := by rw [laws_markByteS.f, if_pos ⟨by omega, by omega, by omega⟩]
      have c7 : laws_heldByteS.f (B.marks 1 D.length) 1 = some (1 + (D.length : Int)) := by
        rw [laws_heldByteS.f, if_pos ⟨by rw [B.marks_length]; omega, by omega, by omega⟩, B.marks_length, if_pos rfl]
      simp only [c1_0, c1_1, c3, c4_0, c4_1, c5_0, c5_1, s0, s1, Option.bind_some, if_true]
      rw [if_neg (by omega), laws_FnExactDukptKey.j0]
      simp only [Bool.not_true, c6, c7, c1_0, c1_1, s1, c3, Option.bind_some, if_true]
      rw [if_neg (by simp), if_neg (by omega), if_neg (by omega)]
end LDkey
theorem laws_FnExactDukptKey.walk (a0 : Option Addr) (len0 cap0 : Nat) (z0 : List Int) (a1 : Option Addr) (len1 cap1 : Nat) (z1 : List Int) (w : World) (ht : Tab8 w) (w0 : (a0 = none ∧ len0 = 0 ∧ cap0 = 0 ∧ z0 = []) ∨ ∃ x, a0 = some x ∧ len0 ≤ cap0 ∧ cap0 ≤ maxLen ∧ z0.length = cap0 ∧ (∀ i, i < z0.length → w.cell? (x.add i) = some (.int .u8 (z0.getD i 0))) ∧ ∀ n ∈ z0, (Lit.int .u8 n).wf = true) (y0 : len0 * 1 ≤ 140737488351232) (w1 : (a1 = none ∧ len1 = 0 ∧ cap1 = 0 ∧ z1 = []) ∨ ∃ x, a1 = some x ∧ len1 ≤ cap1 ∧ cap1 ≤ maxLen ∧ z1.length = cap1 ∧ (∀ i, i < z1.length → w.cell? (x.add i) = some (.int .u8 (z1.getD i 0))) ∧ ∀ n ∈ z1, (Lit.int .u8 n).wf = true) (y1 : len1 * 1 ≤ 140737488351232) :
    Calls Tryd.prog 10 #[.slice a0 len0 cap0, .slice a1 len1 cap1] w fun e w' => e = .returned (.bool true) ∧ Below w.heap.size w w' := by
  obtain ⟨l0, rfl, hr0, hm0, hw0, hc0⟩ := ReadsInt.ofRowC w0
  obtain ⟨l1, rfl, hr1, hm1, hw1, hc1⟩ := ReadsInt.ofRowC w1
  have hb0 : Bytes l0 := fun x hx => byte_of_wf' (hw0 x hx)
  have hb1 : Bytes l1 := fun x hx => byte_of_wf' (hw1 x hx)
  obtain ⟨k, h⟩ := LDkey.pure l0 l1 hb0 hb1
  refine (LDkey.laws_FnExactDukptKey.calls k _ _ l0 _ _ l1 true w ht (Kd.C_of_reads (d := (0 : Int)) (h1 := fun _ => rfl) hr0) hc0 (Kd.C_of_reads (d := (0 : Int)) (h1 := fun _ => rfl) hr1) hc1 h).mono ?_
  rintro e w' ⟨rfl, hd⟩
  exact ⟨rfl, hd⟩
end Go.Proofs.YtbjlpdfhjapbkaaDoor
