/- The law FnExactVariant's plain statement: for each list of bytes and each use the printed law answers true. Conditions: the list's length fits Go's, each number is of its kind. -/
import Derived.Test.YtbjlpdfhjapbkaaLV1
import Derived.Test.YtbjlpdfhjapbkaaPureFnExactOddParity
namespace Go.Proofs.Ytbjlpdfhjapbkaa.Pure
open Go.RowKit Go.Proofs.Ytbjlpdfhjapbkaa.LV Go.Proofs.YtbjlpdfhjapbkaaW.PrintWords Go.Proofs.YtbjlpdfhjapbkaaW.PrintLast

theorem xor0 {x : Int} (h : 0 ≤ x ∧ x ≤ 255) : Go.bits .xor .u8 x 0 = x := by
  have : ∀ n : Fin 256, Go.bits .xor .u8 (n.val : Int) 0 = n.val := by decide +kernel
  obtain ⟨n, rfl⟩ := B.fin_of h
  exact this n
theorem list16 {l : List Int} (h : l.length = 16) : ∃ a0 a1 a2 a3 a4 a5 a6 a7 a8 a9 a10 a11 a12 a13 a14 a15, l = [a0, a1, a2, a3, a4, a5, a6, a7, a8, a9, a10, a11, a12, a13, a14, a15] := by
  match l, h with
  | [a0, a1, a2, a3, a4, a5, a6, a7, a8, a9, a10, a11, a12, a13, a14, a15], _ => exact ⟨_, _, _, _, _, _, _, _, _, _, _, _, _, _, _, _, rfl⟩

theorem spec_loop1 (k : Nat) (l : List Int) (h : l.length = 16) (u : Int) (hu : u = 1) : spec_Variant.l0 (k + 3) u l [7, 15] 2 0 = some ((l.set 7 (Go.bits .xor .u8 (rd l 7) 255)).set 15 (Go.bits .xor .u8 (rd (l.set 7 (Go.bits .xor .u8 (rd l 7) 255)) 15) 255)) := by
  have hn : ¬ u = 2 := by omega
  rw [spec_Variant.l0, if_pos (by decide), if_pos (by decide), if_pos (by decide), if_neg hn, show rd [7, 15] 0 = 7 from rfl, if_pos (by decide), if_pos (by rw [h]; decide), show wrap64 (0 + 1) = 1 from by decide +kernel]
  rw [spec_Variant.l0, if_pos (by decide), if_pos (by decide), if_pos (by decide), if_neg hn, show rd [7, 15] 1 = 15 from rfl, if_pos (by decide), if_pos (by rw [List.length_set, h]; decide), show wrap64 (1 + 1) = 2 from by decide +kernel]
  rw [spec_Variant.l0, if_neg (by decide)]
  rfl
theorem spec_loop2 (k : Nat) (l : List Int) (h : l.length = 16) (u : Int) (hu : u = 2) : spec_Variant.l0 (k + 3) u l [7, 15] 2 0 = some ((l.set 6 (Go.bits .xor .u8 (rd l 6) 255)).set 14 (Go.bits .xor .u8 (rd (l.set 6 (Go.bits .xor .u8 (rd l 6) 255)) 14) 255)) := by
  have w7 : wrap64 (7 - 1) = 6 := by decide +kernel
  have w15 : wrap64 (15 - 1) = 14 := by decide +kernel
  rw [spec_Variant.l0, if_pos (by decide), if_pos (by decide), if_pos (by decide), if_pos hu, show rd [7, 15] 0 = 7 from rfl, w7, if_pos (by decide), if_pos (by rw [h]; decide), show wrap64 (0 + 1) = 1 from by decide +kernel]
  rw [spec_Variant.l0, if_pos (by decide), if_pos (by decide), if_pos (by decide), if_pos hu, show rd [7, 15] 1 = 15 from rfl, w15, if_pos (by decide), if_pos (by rw [List.length_set, h]; decide), show wrap64 (1 + 1) = 2 from by decide +kernel]
  rw [spec_Variant.l0, if_neg (by decide)]
  rfl

theorem spec_variant_eq (l : List Int) (u : Int) (hl : l.length ≤ 1048576) (hb : ∀ x ∈ l, 0 ≤ x ∧ x ≤ 255) (k : Nat) : spec_Variant.f (k + 4) l u = some (variantL l u) := by
  unfold spec_Variant.f variantL
  by_cases h16 : l.length = 16
  · rw [if_pos (by omega)]
    have hj : ∀ k', spec_Variant.j0 (k' + 1) l u false = spec_Variant.l0 k' u l [7, 15] 2 0 := fun k' => by
      rw [spec_Variant.j0, if_neg (by simp), spec_l1Bytes.f, if_pos (by omega)]
      rfl
    obtain ⟨a0, a1, a2, a3, a4, a5, a6, a7, a8, a9, a10, a11, a12, a13, a14, a15, rfl⟩ := list16 h16
    have e : ∀ x ∈ [a0, a1, a2, a3, a4, a5, a6, a7, a8, a9, a10, a11, a12, a13, a14, a15], Go.bits .xor .u8 x 0 = x := fun x hx => xor0 (hb x hx)
    simp only [List.mem_cons, List.not_mem_nil, or_false, forall_eq_or_imp, forall_eq] at e
    obtain ⟨e0, e1, e2, e3, e4, e5, e6, e7, e8, e9, e10, e11, e12, e13, e14, e15⟩ := e
    clear hb
    by_cases h1 : u = 1
    · rw [if_pos h1, if_pos ⟨h16, h1⟩, hj, spec_loop1 k _ h16 u h1]
      simp [maskL, rd, nth, e0, e1, e2, e3, e4, e5, e6, e8, e9, e10, e11, e12, e13, e14]
    · rw [if_neg h1, if_neg (by omega)]
      by_cases h2 : u = 2
      · rw [if_pos ⟨h16, h2⟩, show (u != 2) = false from by simp [h2], hj, spec_loop2 k _ h16 u h2]
        simp [maskL, rd, nth, e0, e1, e2, e3, e4, e5, e7, e8, e9, e10, e11, e12, e13, e15]
      · rw [if_neg (by omega), show (u != 2) = true from by simp [h2], spec_Variant.j0, if_pos rfl]
  · rw [if_neg (by omega), if_neg (by omega), if_neg (by omega), spec_Variant.j0, if_pos rfl]

theorem variantL_length (l : List Int) (u : Int) : (variantL l u).length ≤ l.length := by
  unfold variantL
  split
  · rw [maskL_length]; omega
  · split
    · rw [maskL_length]; omega
    · simp

theorem FnExactVariant : laws_FnExactVariant.Pure := by
  intro l u hm hn hw _
  have hb : ∀ x ∈ l, 0 ≤ x ∧ x ≤ 255 := fun x hx => byte_of_wf (hw x hx)
  clear hw hm
  refine ⟨0 + 4, ?_⟩
  unfold laws_FnExactVariant.f
  by_cases hbig : (l.length : Int) > 1048576
  · rw [if_pos hbig]
  · rw [if_neg hbig]
    have hl : l.length ≤ 1048576 := by omega
    have hs := spec_variant_eq l u hl hb 0
    clear hb
    have ho := variantL_length l u
    have c1 : laws_toByteS.f l = some l := by rw [laws_toByteS.f, if_pos (by omega)]
    have c2 : impl_Variant.f l u = some (variantL l u) := by rw [impl_Variant.f, if_pos hl]
    have c3 : laws_eqByteS.f (variantL l u) (variantL l u) = some true := by rw [laws_eqByteS.f, if_pos (by omega)]; simp
    have c4 : laws_eqByteS.f l l = some true := by rw [laws_eqByteS.f, if_pos (by omega)]; simp
    have c5 : laws_markByteS.f l 1 = some (1 + (l.length : Int), B.marks 1 l.length) := by rw [laws_markByteS.f, if_pos ⟨by omega, by omega, by omega⟩]
    have c6 : laws_markByteS.f (variantL l u) 1 = some (1 + ((variantL l u).length : Int), B.marks 1 (variantL l u).length) := by rw [laws_markByteS.f, if_pos ⟨by omega, by omega, by omega⟩]
    have c7 : laws_heldByteS.f (B.marks 1 (variantL l u).length) 1 = some (1 + ((variantL l u).length : Int)) := by
      rw [laws_heldByteS.f, if_pos ⟨by rw [B.marks_length]; omega, by omega, by omega⟩, B.marks_length, if_pos rfl]
    simp only [c1, c2, c3, c4, c5, hs, Option.bind_some, if_true]
    rw [if_neg (by omega), laws_FnExactVariant.j0]
    simp only [Bool.not_true, c6, c7, c1, c2, c3, Option.bind_some, if_true]
    rw [if_neg (by simp), if_neg (by omega), if_neg (by omega)]
end Go.Proofs.Ytbjlpdfhjapbkaa.Pure
