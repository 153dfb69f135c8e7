/- FnExactCheckValue: the print answers true; the walk. -/
import Derived.Test.YtbjlpdfhjapbkaaDoorLCv8
import Derived.Test.YtbjlpdfhjapbkaaDoorLCv0
import Derived.Test.YtbjlpdfhjapbkaaDoorCv
namespace Go.Proofs.YtbjlpdfhjapbkaaDoor
open Go.RowKit Go.Proofs.YtbjlpdfhjapbkaaDoorW.PrintWords Go.Proofs.YtbjlpdfhjapbkaaDoorW.PrintLast Go.Proofs.YtbjlpdfhjapbkaaDoorW.PrintMore Go.Proofs.YtbjlpdfhjapbkaaDoor.D
set_option linter.unusedVariables false
namespace LCv8
theorem pure (l0 : List Int) (hb0 : Bytes l0) (h : l0.length = 16) : ∃ k, laws_FnExactCheckValue.f k l0 = some true := by
  refine ⟨1, ?_⟩
  unfold laws_FnExactCheckValue.f
  by_cases hbig0 : (l0.length : Int) > 1048576
  · rw [if_pos hbig0]
  · rw [if_neg hbig0]
    have s0 : spec_CheckValue.f l0 = some (cvL l0) := by rw [spec_CheckValue.f, if_pos (bytesB_mk hb0), if_pos h]
    have s1 : impl_CheckValue.f l0 = some (cvL l0) := by rw [impl_CheckValue.f, if_pos ⟨bytesB_mk hb0, h⟩]
    have hD : (cvL l0).length ≤ 8 := by rw [cvL, List.length_take, tdeaL_length _ _ _ _ zero8_length]; omega
    obtain ⟨D, hDe⟩ : ∃ D : List Int, D = cvL l0 := ⟨_, rfl⟩
    rw [← hDe] at s0 s1 hD
    clear hDe
    have c1_0 : laws_toByteS.f l0 = some l0 := by rw [laws_toByteS.f, if_pos (by omega)]
    have c4_0 : laws_eqByteS.f l0 l0 = some true := by rw [laws_eqByteS.f, if_pos (by omega)]; simp
    have c3 : laws_eqByteS.f D D = some true := by rw [laws_eqByteS.f, if_pos (by omega)]; simp
    have c5_0 : laws_markByteS.f l0 (1) = some (1 + (l0.length : Int), B.marks (1) l0.length) := by rw [laws_markByteS.f, if_pos ⟨by omega, by omega, by omega⟩]
    have c6 : laws_markByteS.f D 1 = some (1 + (D.length : Int), B.marks 1 D.length) := by rw [laws_markByteS.f, if_pos ⟨by omega, by omega, by omega⟩]
    have c7 : laws_heldByteS.f (B.marks 1 D.length) 1 = some (1 + (D.length : Int)) := by
      rw [laws_heldByteS.f, if_pos ⟨by rw [B.marks_length]; omega, by omega, by omega⟩, B.marks_length, if_pos rfl]
    simp only [c1_0, c3, c4_0, c5_0, s0, s1, Option.bind_some, if_true]
    rw [if_neg (by omega), laws_FnExactCheckValue.j0]
    simp only [Bool.not_true, c6, c7, c1_0, s1, c3, Option.bind_some, if_true]
    rw [if_neg (by simp), if_neg (by omega), if_neg (by omega)]
end LCv8
namespace LCv0
theorem pure (l0 : List Int) (hb0 : Bytes l0) (h : ¬ (l0.length = 16)) : ∃ k, laws_FnExactCheckValue.f k l0 = some true := by
  refine ⟨1, ?_⟩
  unfold laws_FnExactCheckValue.f
  by_cases hbig0 : (l0.length : Int) > 1048576
  · rw [if_pos hbig0]
  · rw [if_neg hbig0]
    have s0 : spec_CheckValue.f l0 = some [] := by rw [spec_CheckValue.f, if_pos (bytesB_mk hb0), if_neg h]
    have s1 : impl_CheckValue.f l0 = some [] := by rw [impl_CheckValue.f, if_pos h]
    have hD : (([] : List Int)).length ≤ 8 := by simp
    obtain ⟨D, hDe⟩ : ∃ D : List Int, D = ([] : List Int) := ⟨_, rfl⟩
    rw [← hDe] at s0 s1 hD
    clear hDe
    have c1_0 : laws_toByteS.f l0 = some l0 := by rw [laws_toByteS.f, if_pos (by omega)]
    have c4_0 : laws_eqByteS.f l0 l0 = some true := by rw [laws_eqByteS.f, if_pos (by omega)]; simp
    have c3 : laws_eqByteS.f D D = some true := by rw [laws_eqByteS.f, if_pos (by omega)]; simp
    have c5_0 : laws_markByteS.f l0 (1) = some (1 + (l0.length : Int), B.marks (1) l0.length) := by rw [laws_markByteS.f, if_pos ⟨by omega, by omega, by omega⟩]
    have c6 : laws_markByteS.f D 1 = some (1 + (D.length : Int), B.marks 1 D.length) := by rw [laws_markByteS.f, if_pos ⟨by omega, by omega, by omega⟩]
    have c7 : laws_heldByteS.f (B.marks 1 D.length) 1 = some (1 + (D.length : Int)) := by
      rw [laws_heldByteS.f, if_pos ⟨by rw [B.marks_length]; omega, by omega, by omega⟩, B.marks_length, if_pos rfl]
    simp only [c1_0, c3, c4_0, c5_0, s0, s1, Option.bind_some, if_true]
    rw [if_neg (by omega), laws_FnExactCheckValue.j0]
    simp only [Bool.not_true, c6, c7, c1_0, s1, c3, Option.bind_some, if_true]
    rw [if_neg (by simp), if_neg (by omega), if_neg (by omega)]
end LCv0
theorem laws_FnExactCheckValue.walk (a0 : Option Addr) (len0 cap0 : Nat) (z0 : List Int) (w : World) (ht : Tab w) (w0 : (a0 = none ∧ len0 = 0 ∧ cap0 = 0 ∧ z0 = []) ∨ ∃ x, a0 = some x ∧ len0 ≤ cap0 ∧ cap0 ≤ maxLen ∧ z0.length = cap0 ∧ (∀ i, i < z0.length → w.cell? (x.add i) = some (.int .u8 (z0.getD i 0))) ∧ ∀ n ∈ z0, (Lit.int .u8 n).wf = true) (y0 : len0 * 1 ≤ 140737488351232) :
    Calls Tryd.prog 6 #[.slice a0 len0 cap0] w fun e w' => e = .returned (.bool true) ∧ Below w.heap.size w w' := by
  obtain ⟨l0, rfl, hr0, hm0, hw0, hc0⟩ := ReadsInt.ofRowC w0
  have hb0 : Bytes l0 := fun x hx => byte_of_wf' (hw0 x hx)
  by_cases hl : l0.length = 16
  · skip
    obtain ⟨k, h⟩ := LCv8.pure l0 hb0 hl
    refine (LCv8.laws_FnExactCheckValue.calls k _ _ l0 true w ht (Kd.C_of_reads (d := (0 : Int)) (h1 := fun _ => rfl) hr0) hc0 h).mono ?_
    rintro e w' ⟨rfl, hd⟩
    exact ⟨rfl, hd⟩
  · skip
    obtain ⟨k, h⟩ := LCv0.pure l0 hb0 hl
    refine (LCv0.laws_FnExactCheckValue.calls k _ _ l0 true w (Kd.C_of_reads (d := (0 : Int)) (h1 := fun _ => rfl) hr0) hc0 h).mono ?_
    rintro e w' ⟨rfl, hd⟩
    exact ⟨rfl, hd⟩
end Go.Proofs.YtbjlpdfhjapbkaaDoor
