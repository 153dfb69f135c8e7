/- Words on XOR over rows of bytes, on impl.xor8 of two blocks, on zero blocks among new ones (as in the texts Chain and Cbc, which this text stands in for). -/
import Derived.Test.YtbjlpdfhjapbkaaDoorTdW
import Derived.Test.YtbjlpdfhjapbkaaDoorXor8
namespace Go.Proofs.YtbjlpdfhjapbkaaDoor
open Go.RowKit Go.Proofs.YtbjlpdfhjapbkaaDoorW.PrintWords Go.Proofs.YtbjlpdfhjapbkaaDoorW.PrintLast Go.Proofs.YtbjlpdfhjapbkaaDoorW.PrintMore Go.Proofs.YtbjlpdfhjapbkaaDoor.D
open Go.Proofs.YtbjlpdfhjapbkaaDoor.B (xorL xorL_length)
set_option linter.unusedVariables false

theorem xor_byte (x y : Int) (hx : 0 ≤ x ∧ x ≤ 255) (hy : 0 ≤ y ∧ y ≤ 255) : 0 ≤ Go.bits .xor .u8 x y ∧ Go.bits .xor .u8 x y ≤ 255 := by
  obtain ⟨⟨n, rfl⟩, h1⟩ : (∃ n : Nat, x = n) ∧ x ≤ 255 := ⟨⟨x.toNat, by omega⟩, hx.2⟩
  obtain ⟨⟨m, rfl⟩, h2⟩ : (∃ n : Nat, y = n) ∧ y ≤ 255 := ⟨⟨y.toNat, by omega⟩, hy.2⟩
  have h := (List.all_eq_true.1 (show ((List.range 256).all fun i => (List.range 256).all fun j => decide (0 ≤ Go.bits .xor .u8 (i : Int) (j : Int) ∧ Go.bits .xor .u8 (i : Int) (j : Int) ≤ 255)) = true by decide +kernel)) n (List.mem_range.2 (by omega))
  exact of_decide_eq_true ((List.all_eq_true.1 h) m (List.mem_range.2 (by omega)))
theorem xor_zero (x : Int) (hx : 0 ≤ x ∧ x ≤ 255) : Go.bits .xor .u8 0 x = x := by
  obtain ⟨⟨n, rfl⟩, h1⟩ : (∃ n : Nat, x = n) ∧ x ≤ 255 := ⟨⟨x.toNat, by omega⟩, hx.2⟩
  exact of_decide_eq_true ((List.all_eq_true.1 (show ((List.range 256).all fun i => decide (Go.bits .xor .u8 0 (i : Int) = (i : Int))) = true by decide +kernel)) n (List.mem_range.2 (by omega)))
theorem xorL_bytes : ∀ (a b : List Int), Bytes a → Bytes b → Bytes (xorL a b)
  | [], _, _, _ => fun x hx => by simp [xorL] at hx
  | _ :: _, [], _, _ => fun x hx => by simp [xorL] at hx
  | x :: a, y :: b, ha, hb => fun z hz => by
    have hz' : z = Go.bits .xor .u8 x y ∨ z ∈ xorL a b := by simpa [xorL] using hz
    rcases hz' with rfl | h
    · exact xor_byte x y (ha x (List.mem_cons_self ..)) (hb y (List.mem_cons_self ..))
    · exact xorL_bytes a b (fun q hq => ha q (List.mem_cons_of_mem _ hq)) (fun q hq => hb q (List.mem_cons_of_mem _ hq)) z h
theorem xorL_zeros : ∀ (n : Nat) (b : List Int), b.length = n → Bytes b → xorL (List.replicate n 0) b = b
  | 0, [], _, _ => rfl
  | n + 1, x :: b, h, hb => by
    have e : xorL (List.replicate (n + 1) 0) (x :: b) = Go.bits .xor .u8 0 x :: xorL (List.replicate n 0) b := rfl
    rw [e, xor_zero x (hb x (List.mem_cons_self ..)), xorL_zeros n b (by simpa using h) (fun q hq => hb q (List.mem_cons_of_mem _ hq))]
theorem xor8_two (a b : List Int) (ha : a.length = 8) (hab : Bytes a) (hb : b.length = 8) (g c : Nat) (t : TypeId) (w : World) (h : Blk w g .u8 t (a ++ b)) :
    Calls Tryd.prog 55 #[.slice (some ⟨g, 0, none⟩) 2 c] w fun e w' => e = .returned (.agg (nums .u8 (xorL a b)).toArray) ∧ Below w.heap.size w w' := by
  have hx : foldX (fun k => if k = 0 then a else b) 2 = xorL a b := by
    show xorL (xorL (List.replicate 8 0) a) b = xorL a b
    rw [xorL_zeros 8 a ha hab]
  rw [← hx]
  refine impl_xor8.calls (fun k => if k = 0 then a else b) 2 c g w (by omega) (fun k => by show (if k = 0 then a else b).length = 8; split <;> assumption) (fun k hk j v hv => ?_)
  have hr := h.range
  have hj : j < 8 := by
    have := (List.getElem?_eq_some_iff.1 hv).1
    rw [nums_length] at this
    split at this <;> omega
  have e : (nums .u8 (a ++ b))[8 * k + j]? = some v := by
    rw [← hv]
    have ea : nums .u8 (a ++ b) = nums .u8 a ++ nums .u8 b := by simp [nums]
    rw [ea]
    rcases (by omega : k = 0 ∨ k = 1) with rfl | rfl
    · rw [List.getElem?_append_left (by rw [nums_length]; omega), Nat.mul_zero, Nat.zero_add]
      rfl
    · rw [List.getElem?_append_right (by rw [nums_length]; omega), nums_length, ha]
      have : 8 * 1 + j - 8 = j := by omega
      rw [this]
      rfl
  have := hr (8 * k + j) v e
  rw [Nat.zero_add] at this
  exact this
theorem blk_new_at1 (w : World) (B : Obj) (k : IntKind) (t : TypeId) (xs : List Int) : Blk ((w.alloc B).alloc (.cells (nums k xs).toArray t)) (w.heap.size + 1) k t xs := by
  have h := Blk.new (w.alloc B) k t xs
  rw [show (w.alloc B).heap.size = w.heap.size + 1 by simp] at h
  exact h
theorem blk8_new2 (w : World) (B : Obj) {w1 : World} (hb : Below ((w.alloc B).alloc (.cells #[.int .u8 0, .int .u8 0, .int .u8 0, .int .u8 0, .int .u8 0, .int .u8 0, .int .u8 0, .int .u8 0] 38)).heap.size ((w.alloc B).alloc (.cells #[.int .u8 0, .int .u8 0, .int .u8 0, .int .u8 0, .int .u8 0, .int .u8 0, .int .u8 0, .int .u8 0] 38)) w1) : Blk w1 (w.heap.size + 1) .u8 38 [0, 0, 0, 0, 0, 0, 0, 0] := by
  have h := blk8_new (w.alloc B) hb
  rw [show (w.alloc B).heap.size = w.heap.size + 1 by simp] at h
  exact h
theorem blk8_new3 (w : World) (B : Obj) {w1 : World} (hb : Below ((w.alloc (.cells #[.int .u8 0, .int .u8 0, .int .u8 0, .int .u8 0, .int .u8 0, .int .u8 0, .int .u8 0, .int .u8 0] 38)).alloc B).heap.size ((w.alloc (.cells #[.int .u8 0, .int .u8 0, .int .u8 0, .int .u8 0, .int .u8 0, .int .u8 0, .int .u8 0, .int .u8 0] 38)).alloc B) w1) : Blk w1 w.heap.size .u8 38 [0, 0, 0, 0, 0, 0, 0, 0] :=
  ((blk8_new w (Below.refl _ _)).alloc B).below hb
end Go.Proofs.YtbjlpdfhjapbkaaDoor
