/- Words on XOR over rows of bytes; impl.xor8 of two blocks. -/
import Derived.Test.YtiejallnkgllnaaXorP
namespace Go.Proofs.Ytiejallnkgllnaa
open Go.RowKit Go.Proofs.YtiejallnkgllnaaW.PrintWords Go.Proofs.YtiejallnkgllnaaW.PrintLast Go.Proofs.YtiejallnkgllnaaW.PrintMore Go.Proofs.Ytiejallnkgllnaa.D
open Go.Proofs.Ytiejallnkgllnaa.B (xorL xorL_length)
set_option linter.unusedVariables false

theorem xor_byte (x y : Int) (hx : 0 ≤ x ∧ x ≤ 255) (hy : 0 ≤ y ∧ y ≤ 255) : 0 ≤ Go.bits .xor .u8 x y ∧ Go.bits .xor .u8 x y ≤ 255 := by
  obtain ⟨⟨n, rfl⟩, h1⟩ : (∃ n : Nat, x = n) ∧ x ≤ 255 := ⟨⟨x.toNat, by omega⟩, hx.2⟩
  obtain ⟨⟨m, rfl⟩, h2⟩ : (∃ n : Nat, y = n) ∧ y ≤ 255 := ⟨⟨y.toNat, by omega⟩, hy.2⟩
  have h := (List.all_eq_true.1 (show ((List.range 256).all fun i => (List.range 256).all fun j => decide (0 ≤ Go.bits .xor .u8 (i : Int) (j : Int) ∧ Go.bits .xor .u8 (i : Int) (j : Int) ≤ 255)) = true by decide +kernel)) n (List.mem_range.2 (by omega))
  exact of_decide_eq_true ((List.all_eq_true.1 h) m (List.mem_range.2 (by omega)))
theorem xor_zero (x : Int) (hx : 0 ≤ x ∧ x ≤ 255) : Go.bits .xor .u8 0 x = x := by
  obtain ⟨⟨n, rfl⟩, h1⟩ : (∃ n : Nat, x = n) ∧ x ≤ 255 := ⟨⟨x.toNat, by omega⟩, hx.2⟩
  exact of_decide_eq_true ((List.all_eq_true.1 (show ((List.range 256).all fun i => decide (Go.bits .xor .u8 0 (i : Int) = (i : Int))) = true by decide +kernel)) n (List.mem_range.2 (by omega)))
theorem xorL_bytes : ∀ (a b : List Int), Bytes a → Bytes b → Bytes (xorL a b)
  | [], _, _, _ => fun x hx => by simp [xorL] at hx
  | _ :: _, [], _, _ => fun x hx => by simp [xorL] at hx
  | x :: a, y :: b, ha, hb => fun z hz => by
    have hz' : z = Go.bits .xor .u8 x y ∨ z ∈ xorL a b := by simpa [xorL] using hz
    rcases hz' with rfl | h
    · exact xor_byte x y (ha x (List.mem_cons_self ..)) (hb y (List.mem_cons_self ..))
    · exact xorL_bytes a b (fun q hq => ha q (List.mem_cons_of_mem _ hq)) (fun q hq => hb q (List.mem_cons_of_mem _ hq)) z h
theorem xorL_zeros : ∀ (n : Nat) (b : List Int), b.length = n → Bytes b → xorL (List.replicate n 0) b = b
  | 0, [], _, _ => rfl
  | n + 1, x :: b, h, hb => by
    have e : xorL (List.replicate (n + 1) 0) (x :: b) = Go.bits .xor .u8 0 x :: xorL (List.replicate n 0) b := rfl
    rw [e, xor_zero x (hb x (List.mem_cons_self ..)), xorL_zeros n b (by simpa using h) (fun q hq => hb q (List.mem_cons_of_mem _ hq))]
theorem Blk.range {w : World} {g : Nat} {k : IntKind} {t : TypeId} {xs : List Int} (h : Blk w g k t xs) : w.rangeAt g 0 (nums k xs) := by
  intro j v hv
  have hj : j < xs.length := by
    rcases Nat.lt_or_ge j xs.length with h' | h'
    · exact h'
    · simp [nums, List.getElem?_eq_none h'] at hv
  rw [Nat.zero_add, h.cell j hj]
  simp [nums, hj] at hv
  subst hv
  rw [nth_at _ _ hj]
theorem xor8_two (a b : List Int) (ha : a.length = 8) (hab : Bytes a) (hb : b.length = 8) (g c : Nat) (t : TypeId) (w : World) (h : Blk w g .u8 t (a ++ b)) :
    Calls Try.prog 51 #[.slice (some ⟨g, 0, none⟩) 2 c] w fun e w' => e = .returned (.agg (nums .u8 (xorL a b)).toArray) ∧ Below w.heap.size w w' := by
  have hx : foldX (fun k => if k = 0 then a else b) 2 = xorL a b := by
    show xorL (xorL (List.replicate 8 0) a) b = xorL a b
    rw [xorL_zeros 8 a ha hab]
  rw [← hx]
  refine impl_xor8.calls (fun k => if k = 0 then a else b) 2 c g w (by omega) (fun k => by show (if k = 0 then a else b).length = 8; split <;> assumption) (fun k hk j v hv => ?_)
  have hr := h.range
  have hj : j < 8 := by
    have := (List.getElem?_eq_some_iff.1 hv).1
    rw [nums_length] at this
    split at this <;> omega
  have e : (nums .u8 (a ++ b))[8 * k + j]? = some v := by
    rw [← hv]
    have ea : nums .u8 (a ++ b) = nums .u8 a ++ nums .u8 b := by simp [nums]
    rw [ea]
    rcases (by omega : k = 0 ∨ k = 1) with rfl | rfl
    · rw [List.getElem?_append_left (by rw [nums_length]; omega), Nat.mul_zero, Nat.zero_add]
      rfl
    · rw [List.getElem?_append_right (by rw [nums_length]; omega), nums_length, ha]
      have : 8 * 1 + j - 8 = j := by omega
      rw [this]
      rfl
  have := hr (8 * k + j) v e
  rw [Nat.zero_add] at this
  exact this
end Go.Proofs.Ytiejallnkgllnaa
