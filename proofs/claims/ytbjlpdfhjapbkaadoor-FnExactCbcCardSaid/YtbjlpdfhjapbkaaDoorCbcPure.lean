/- FnExactCbc: the print answers true; the walk. -/
import Derived.Test.YtbjlpdfhjapbkaaDoorLCbc
import Derived.Test.YtbjlpdfhjapbkaaDoorCbcP
namespace Go.Proofs.YtbjlpdfhjapbkaaDoor
open Go.RowKit Go.Proofs.YtbjlpdfhjapbkaaDoorW.PrintWords Go.Proofs.YtbjlpdfhjapbkaaDoorW.PrintLast Go.Proofs.YtbjlpdfhjapbkaaDoorW.PrintMore Go.Proofs.YtbjlpdfhjapbkaaDoor.D
set_option linter.unusedVariables false
namespace LCbc
theorem pure (l0 : List Int) (l1 : List Int) (l2 : List Int) (a3 : Bool) (hb0 : Bytes l0) (hb1 : Bytes l1) (hb2 : Bytes l2) : ∃ k, laws_FnExactCbc.f k l0 l1 l2 a3 = some true := by
  refine ⟨1, ?_⟩
  unfold laws_FnExactCbc.f
  by_cases hbig0 : (l0.length : Int) > 1048576
  · rw [if_pos hbig0]
  · rw [if_neg hbig0]
    by_cases hbig1 : (l1.length : Int) > 1048576
    · rw [if_pos hbig1]
    · rw [if_neg hbig1]
      by_cases hbig2 : (l2.length : Int) > 1048576
      · rw [if_pos hbig2]
      · rw [if_neg hbig2]
        have s0 : spec_Cbc.f l0 l1 l2 a3 = some (cbcR l0 l1 l2 a3) := by rw [spec_Cbc.f, if_pos (⟨bytesB_mk hb0, bytesB_mk hb1, bytesB_mk hb2⟩)]
        have s1 : impl_Cbc.f l0 l1 l2 a3 = some (cbcR l0 l1 l2 a3) := by rw [impl_Cbc.f, if_pos (⟨bytesB_mk hb0, bytesB_mk hb1, bytesB_mk hb2⟩)]
        have hD : (cbcR l0 l1 l2 a3).length ≤ 4096 := cbcR_length _ _ _ _ hb1 hb2
        obtain ⟨D, hDe⟩ : ∃ D : List Int, D = cbcR l0 l1 l2 a3 := ⟨_, rfl⟩
        rw [← hDe] at s0 s1 hD
        clear hDe
        have c1_0 : laws_toByteS.f l0 = some l0 := by rw [laws_toByteS.f, if_pos (by omega)]
        have c4_0 : laws_eqByteS.f l0 l0 = some true := by rw [laws_eqByteS.f, if_pos (by omega)]; simp
        have c1_1 : laws_toByteS.f l1 = some l1 := by rw [laws_toByteS.f, if_pos (by omega)]
        have c4_1 : laws_eqByteS.f l1 l1 = some true := by rw [laws_eqByteS.f, if_pos (by omega)]; simp
        have c1_2 : laws_toByteS.f l2 = some l2 := by rw [laws_toByteS.f, if_pos (by omega)]
        have c4_2 : laws_eqByteS.f l2 l2 = some true := by rw [laws_eqByteS.f, if_pos (by omega)]; simp
        have c3 : laws_eqByteS.f D D = some true := by rw [laws_eqByteS.f, if_pos (by omega)]; simp
        have c5_0 : laws_markByteS.f l0 (1) = some (1 + (l0.length : Int), B.marks (1) l0.length) := by rw [laws_markByteS.f, if_pos ⟨by omega, by omega, by omega⟩]
        have c5_1 : laws_markByteS.f l1 (1 + (l0.length : Int)) = some (1 + (l0.length : Int) + (l1.length : Int), B.marks (1 + (l0.length : Int)) l1.length) := by rw [laws_markByteS.f, if_pos ⟨by omega, by omega, by omega⟩]
        have c5_2 : laws_markByteS.f l2 (1 + (l0.length : Int) + (l1.length : Int)) = some (1 + (l0.length : Int) + (l1.length : Int) + (l2.length : Int), B.marks (1 + (l0.length : Int) + (l1.length : Int)) l2.length) := by rw [laws_markByteS.f, if_pos ⟨by omega, by omega, by omega⟩]
        have c6 : laws_markByteS.f D 1 = some (1 + (D.length : Int), B.marks 1 D.length) := by rw [laws_markByteS.f, if_pos ⟨by omega, by omega, by omega⟩]
        have c7 : laws_heldByteS.f (B.marks 1 D.length) 1 = some (1 + (D.length : Int)) := by
          rw [laws_heldByteS.f, if_pos ⟨by rw [B.marks_length]; omega, by omega, by omega⟩, B.marks_length, if_pos rfl]
        simp only [c1_0, c1_1, c1_2, c3, c4_0, c4_1, c4_2, c5_0, c5_1, c5_2, s0, s1, Option.bind_some, if_true]
        rw [if_neg (by omega), laws_FnExactCbc.j0]
        simp only [Bool.not_true, c6, c7, c1_0, c1_1, c1_2, s1, c3, Option.bind_some, if_true]
        rw [if_neg (by simp), if_neg (by omega), if_neg (by omega)]
end LCbc
theorem laws_FnExactCbc.walk (a0 : Option Addr) (len0 cap0 : Nat) (z0 : List Int) (a1 : Option Addr) (len1 cap1 : Nat) (z1 : List Int) (a2 : Option Addr) (len2 cap2 : Nat) (z2 : List Int) (a3 : Bool) (w : World) (ht : Tab w) (w0 : (a0 = none ∧ len0 = 0 ∧ cap0 = 0 ∧ z0 = []) ∨ ∃ x, a0 = some x ∧ len0 ≤ cap0 ∧ cap0 ≤ maxLen ∧ z0.length = cap0 ∧ (∀ i, i < z0.length → w.cell? (x.add i) = some (.int .u8 (z0.getD i 0))) ∧ ∀ n ∈ z0, (Lit.int .u8 n).wf = true) (y0 : len0 * 1 ≤ 140737488351232) (w1 : (a1 = none ∧ len1 = 0 ∧ cap1 = 0 ∧ z1 = []) ∨ ∃ x, a1 = some x ∧ len1 ≤ cap1 ∧ cap1 ≤ maxLen ∧ z1.length = cap1 ∧ (∀ i, i < z1.length → w.cell? (x.add i) = some (.int .u8 (z1.getD i 0))) ∧ ∀ n ∈ z1, (Lit.int .u8 n).wf = true) (y1 : len1 * 1 ≤ 140737488351232) (w2 : (a2 = none ∧ len2 = 0 ∧ cap2 = 0 ∧ z2 = []) ∨ ∃ x, a2 = some x ∧ len2 ≤ cap2 ∧ cap2 ≤ maxLen ∧ z2.length = cap2 ∧ (∀ i, i < z2.length → w.cell? (x.add i) = some (.int .u8 (z2.getD i 0))) ∧ ∀ n ∈ z2, (Lit.int .u8 n).wf = true) (y2 : len2 * 1 ≤ 140737488351232) :
    Calls Tryd.prog 9 #[.slice a0 len0 cap0, .slice a1 len1 cap1, .slice a2 len2 cap2, .bool a3] w fun e w' => e = .returned (.bool true) ∧ Below w.heap.size w w' := by
  obtain ⟨l0, rfl, hr0, hm0, hw0, hc0⟩ := ReadsInt.ofRowC w0
  obtain ⟨l1, rfl, hr1, hm1, hw1, hc1⟩ := ReadsInt.ofRowC w1
  obtain ⟨l2, rfl, hr2, hm2, hw2, hc2⟩ := ReadsInt.ofRowC w2
  have hb0 : Bytes l0 := fun x hx => byte_of_wf' (hw0 x hx)
  have hb1 : Bytes l1 := fun x hx => byte_of_wf' (hw1 x hx)
  have hb2 : Bytes l2 := fun x hx => byte_of_wf' (hw2 x hx)
  obtain ⟨k, h⟩ := LCbc.pure l0 l1 l2 a3 hb0 hb1 hb2
  refine (LCbc.laws_FnExactCbc.calls k _ _ l0 _ _ l1 _ _ l2 a3 true w ht (Kd.C_of_reads (d := (0 : Int)) (h1 := fun _ => rfl) hr0) hc0 (Kd.C_of_reads (d := (0 : Int)) (h1 := fun _ => rfl) hr1) hc1 (Kd.C_of_reads (d := (0 : Int)) (h1 := fun _ => rfl) hr2) hc2 h).mono ?_
  rintro e w' ⟨rfl, hd⟩
  exact ⟨rfl, hd⟩
end Go.Proofs.YtbjlpdfhjapbkaaDoor
