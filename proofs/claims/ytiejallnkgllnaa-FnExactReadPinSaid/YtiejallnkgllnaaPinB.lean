/- Plain laws of the printed toByteS, eqByteS, markByteS, heldByteS: a copy, equality, marks, marks held. Condition: lengths below 2^47, rounds enough. -/
import Derived.Test.YtiejallnkgllnaaLPin2
namespace Go.Proofs.Ytiejallnkgllnaa.LPin
open Go.RowKit Go.Proofs.YtiejallnkgllnaaW.PrintWords Go.Proofs.YtiejallnkgllnaaW.PrintLast

theorem wrap64_nat {n : Nat} (h : n ≤ 9223372036854775807) : wrap64 ((n : Int)) = (n : Int) := by unfold wrap64; omega
theorem wrap64_succ {n : Nat} (h : n < 9223372036854775807) : wrap64 ((n : Int) + 1) = ((n + 1 : Nat) : Int) := by unfold wrap64; omega
theorem rd_nat (xs : List Int) (i : Nat) : rd xs (i : Int) = xs.getD i 0 := by simp [rd]

theorem take_set_succ (xs : List Int) (i : Nat) (v : Int) (h : i < xs.length) : (xs.set i v).take (i + 1) = xs.take i ++ [v] := by
  rw [List.take_succ_eq_append_getElem (by simpa using h), List.getElem_set_self]
  congr 1
  apply List.ext_getElem
  · simp
  · intro j h1 h2
    simp only [List.getElem_take]
    rw [List.getElem_set_ne]
    simp at h1
    omega

theorem toByteS_loop (x0 : List Int) (hn : x0.length ≤ 140737488355328) (d : Nat) : ∀ (k i : Nat) (x3 : List Int), x3.length = x0.length → i ≤ x0.length → x0.length - i = d → d < k →
    laws_toByteS.l0 k x0 x3 (i : Int) = some (x3.take i ++ x0.drop i) := by
  induction d with
  | zero =>
    intro k i x3 h3 hi hd hk
    obtain ⟨k, rfl⟩ : ∃ m, k = m + 1 := ⟨k - 1, by omega⟩
    have hi' : i = x0.length := by omega
    simp only [laws_toByteS.l0]
    rw [if_neg (by omega), List.drop_of_length_le (by omega), List.append_nil, List.take_of_length_le (by omega)]
  | succ d ih =>
    intro k i x3 h3 hi hd hk
    obtain ⟨k, rfl⟩ : ∃ m, k = m + 1 := ⟨k - 1, by omega⟩
    have hlt : i < x0.length := by omega
    simp only [laws_toByteS.l0]
    rw [if_pos (by omega), if_pos (by omega), if_pos (by omega), wrap64_succ (by omega), rd_nat, Int.toNat_natCast, ih k (i + 1) _ (by simpa using h3) (by omega) (by omega) (by omega)]
    congr 1
    rw [take_set_succ _ _ _ (by omega), List.append_assoc, List.singleton_append]
    congr 1
    rw [← List.getElem_cons_drop hlt]
    congr 1
    simp [List.getD_eq_getElem?_getD, List.getElem?_eq_getElem hlt]

theorem toByteS_eq (l : List Int) (hn : l.length ≤ 140737488355328) (k : Nat) (hk : l.length < k) : laws_toByteS.f k l = some l := by
  unfold laws_toByteS.f
  rw [if_pos (by omega), if_pos (by omega), Int.toNat_natCast]
  have := toByteS_loop l hn l.length k 0 (List.replicate l.length 0) (by simp) (by omega) (by omega) hk
  simpa using this

theorem eqByteS_loop (a b : List Int) (hab : a.length = b.length) (hn : a.length ≤ 140737488355328) (d : Nat) : ∀ (k i : Nat), i ≤ a.length → a.length - i = d → d < k →
    laws_eqByteS.l0 k a b (i : Int) = some (decide (a.drop i = b.drop i)) := by
  induction d with
  | zero =>
    intro k i hi hd hk
    obtain ⟨k, rfl⟩ : ∃ m, k = m + 1 := ⟨k - 1, by omega⟩
    simp only [laws_eqByteS.l0]
    rw [if_neg (by omega), List.drop_of_length_le (by omega), List.drop_of_length_le (by omega)]
    simp
  | succ d ih =>
    intro k i hi hd hk
    obtain ⟨k, rfl⟩ : ∃ m, k = m + 1 := ⟨k - 1, by omega⟩
    have hlt : i < a.length := by omega
    have hltb : i < b.length := by omega
    simp only [laws_eqByteS.l0]
    rw [if_pos (by omega), if_pos (by omega), if_pos (by omega), wrap64_succ (by omega), rd_nat, rd_nat, ih k (i + 1) (by omega) (by omega) (by omega)]
    rw [← List.getElem_cons_drop hlt, ← List.getElem_cons_drop hltb]
    simp only [List.getD_eq_getElem?_getD, List.getElem?_eq_getElem hlt, List.getElem?_eq_getElem hltb, Option.getD_some, List.cons.injEq]
    by_cases h : a[i] = b[i]
    · rw [if_pos h]; simp [h]
    · rw [if_neg h]; simp [h]

theorem eqByteS_eq (a b : List Int) (hn : a.length ≤ 140737488355328) (k : Nat) (hk : a.length < k) : laws_eqByteS.f k a b = some (decide (a = b)) := by
  unfold laws_eqByteS.f
  by_cases hab : a.length = b.length
  · rw [if_pos (by omega)]
    have := eqByteS_loop a b hab hn a.length k 0 (by omega) (by omega) hk
    simpa using this
  · rw [if_neg (by omega)]
    have : ¬ a = b := fun h => hab (by rw [h])
    simp [this]

/-- n marks from m on. -/
def marks (m : Int) : Nat → List Int
  | 0 => []
  | n + 1 => (m % 256) :: marks (m + 1) n
theorem marks_length (m : Int) (n : Nat) : (marks m n).length = n := by
  induction n generalizing m with
  | zero => rfl
  | succ n ih => simp [marks, ih]

theorem markByteS_loop (m : Int) (d : Nat) : ∀ (k i : Nat) (x0 : List Int), x0.length ≤ 140737488355328 → 0 ≤ m + i → m + x0.length ≤ 9223372036854775807 → i ≤ x0.length → x0.length - i = d → d < k →
    laws_markByteS.l0 k x0 (m + i) (i : Int) = some (m + x0.length, x0.take i ++ marks (m + i) d) := by
  induction d with
  | zero =>
    intro k i x0 hn h0 hm hi hd hk
    obtain ⟨k, rfl⟩ : ∃ m, k = m + 1 := ⟨k - 1, by omega⟩
    simp only [laws_markByteS.l0]
    rw [if_neg (by omega), List.take_of_length_le (by omega)]
    simp only [marks, List.append_nil, Option.some.injEq, Prod.mk.injEq, and_true]
    omega
  | succ d ih =>
    intro k i x0 hn h0 hm hi hd hk
    obtain ⟨k, rfl⟩ : ∃ m, k = m + 1 := ⟨k - 1, by omega⟩
    have hlt : i < x0.length := by omega
    simp only [laws_markByteS.l0]
    have h1 : wrap64 (m + i + 1) = m + ((i + 1 : Nat) : Int) := by unfold wrap64; omega
    have h2 := ih k (i + 1) (x0.set i ((m + i) % 256)) (by simpa using hn) (by omega) (by simpa using hm) (by simp; omega) (by simp; omega) (by omega)
    rw [if_pos (by omega), if_pos (by omega), wrap64_succ (by omega), h1, Int.toNat_natCast, h2]
    simp only [List.length_set, marks]
    congr 2
    rw [take_set_succ _ _ _ hlt, List.append_assoc, List.singleton_append]
    have h3 : m + ((i + 1 : Nat) : Int) = m + (i : Int) + 1 := by omega
    rw [h3]

theorem markByteS_eq (l : List Int) (m : Int) (hn : l.length ≤ 140737488355328) (h0 : 0 ≤ m) (hm : m + l.length ≤ 9223372036854775807) (k : Nat) (hk : l.length < k) :
    laws_markByteS.f k l m = some (m + l.length, marks m l.length) := by
  unfold laws_markByteS.f
  have := markByteS_loop m l.length k 0 l hn (by omega) hm (by omega) (by omega) hk
  simpa using this

theorem heldByteS_loop (d : Nat) : ∀ (k i : Nat) (m : Int) (x0 : List Int), x0.length ≤ 140737488355328 → 0 ≤ m → m + d ≤ 9223372036854775807 → i ≤ x0.length → x0.length - i = d → d < k →
    laws_heldByteS.l0 k x0 m (i : Int) = some (if x0.drop i = marks m d then m + d else -1) := by
  induction d with
  | zero =>
    intro k i m x0 hn h0 hm hi hd hk
    obtain ⟨k, rfl⟩ : ∃ m, k = m + 1 := ⟨k - 1, by omega⟩
    simp only [laws_heldByteS.l0]
    rw [if_neg (by omega), List.drop_of_length_le (by omega)]
    simp [marks]
  | succ d ih =>
    intro k i m x0 hn h0 hm hi hd hk
    obtain ⟨k, rfl⟩ : ∃ m, k = m + 1 := ⟨k - 1, by omega⟩
    have hlt : i < x0.length := by omega
    simp only [laws_heldByteS.l0]
    have h1 : wrap64 (m + 1) = m + 1 := by unfold wrap64; omega
    rw [if_pos (by omega), if_pos (by omega), wrap64_succ (by omega), h1, rd_nat, ih k (i + 1) (m + 1) x0 hn (by omega) (by omega) (by omega) (by omega) (by omega)]
    rw [← List.getElem_cons_drop hlt]
    simp only [List.getD_eq_getElem?_getD, List.getElem?_eq_getElem hlt, Option.getD_some, marks, List.cons.injEq]
    by_cases h : x0[i] = m % 256
    · rw [if_pos h]
      simp only [h, true_and]
      congr 1
      split <;> omega
    · rw [if_neg h]
      simp [h]

theorem heldByteS_eq (l : List Int) (m : Int) (hn : l.length ≤ 140737488355328) (h0 : 0 ≤ m) (hm : m + l.length ≤ 9223372036854775807) (k : Nat) (hk : l.length < k) :
    laws_heldByteS.f k l m = some (if l = marks m l.length then m + l.length else -1) := by
  unfold laws_heldByteS.f
  have := heldByteS_loop l.length k 0 m l hn h0 hm (by omega) (by omega) hk
  simpa using this
theorem held_marks (m : Int) (n : Nat) (hn : n ≤ 140737488355328) (h0 : 0 ≤ m) (hm : m + n ≤ 9223372036854775807) (k : Nat) (hk : n < k) :
    laws_heldByteS.f k (marks m n) m = some (m + n) := by
  have := heldByteS_eq (marks m n) m (by rw [marks_length]; exact hn) h0 (by rw [marks_length]; exact hm) k (by rw [marks_length]; exact hk)
  rw [this, marks_length, if_pos rfl]

end Go.Proofs.Ytiejallnkgllnaa.LPin
