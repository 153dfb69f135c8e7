/- The printed OddParity of the program and of the reference both map each byte by one function. -/
import Derived.Test.YtbjlpdfhjapbkaaBytes
namespace Go.Proofs.Ytbjlpdfhjapbkaa.B
open Go.RowKit Go.Proofs.YtbjlpdfhjapbkaaW.PrintWords Go.Proofs.YtbjlpdfhjapbkaaW.PrintLast Go.Proofs.YtbjlpdfhjapbkaaW.PrintMore

/-- The byte with its lowest bit set so that its ones are odd. -/
def oddB (b : Int) : Int := if (b / 2 % 2 + b / 4 % 2 + b / 8 % 2 + b / 16 % 2 + b / 32 % 2 + b / 64 % 2 + b / 128 % 2) % 2 = 0 then b / 2 * 2 + 1 else b / 2 * 2

def ones7 (b : Int) : Int :=
  let g (s i : Int) : Int := wrap64 (s + (wrap64 (Go.bits .and .u8 (shr .u8 b (IntKind.u64.wrap i)) 1)))
  g (g (g (g (g (g (g 0 1) 2) 3) 4) 5) 6) 7

theorem l1_all (k : Nat) (x3 : List Int) (b : Int) (x11 : List Int) (x12 x13 : Int) : spec_OddParity.l1 (k + 8) x3 b 0 1 x11 x12 x13 =
    (if (Int.tmod (ones7 b) 2) = 0 then (if x3.length < 140737488355328 then (spec_OddParity.l0 k (x3 ++ [Go.bits .or .u8 (Go.bits .and .u8 b 254) 1]) x11 x12 (wrap64 (x13 + 1))) else (none)) else (if x3.length < 140737488355328 then (spec_OddParity.l0 k (x3 ++ [Go.bits .and .u8 b 254]) x11 x12 (wrap64 (x13 + 1))) else (none))) := by
  rw [spec_OddParity.l1, if_pos (by decide), if_pos (by decide), show wrap64 (1 + 1) = 2 from by decide +kernel]
  rw [spec_OddParity.l1, if_pos (by decide), if_pos (by decide), show wrap64 (2 + 1) = 3 from by decide +kernel]
  rw [spec_OddParity.l1, if_pos (by decide), if_pos (by decide), show wrap64 (3 + 1) = 4 from by decide +kernel]
  rw [spec_OddParity.l1, if_pos (by decide), if_pos (by decide), show wrap64 (4 + 1) = 5 from by decide +kernel]
  rw [spec_OddParity.l1, if_pos (by decide), if_pos (by decide), show wrap64 (5 + 1) = 6 from by decide +kernel]
  rw [spec_OddParity.l1, if_pos (by decide), if_pos (by decide), show wrap64 (6 + 1) = 7 from by decide +kernel]
  rw [spec_OddParity.l1, if_pos (by decide), if_pos (by decide), show wrap64 (7 + 1) = 8 from by decide +kernel]
  rw [spec_OddParity.l1, if_neg (by decide)]
  rfl

theorem spec_byte : ∀ n : Fin 256, (Int.tmod (ones7 (n.val : Int)) 2 = 0 → Go.bits .or .u8 (Go.bits .and .u8 (n.val : Int) 254) 1 = oddB n.val) ∧ (¬ Int.tmod (ones7 (n.val : Int)) 2 = 0 → Go.bits .and .u8 (n.val : Int) 254 = oddB n.val) := by
  decide +kernel
theorem impl_byte : ∀ n : Fin 256, ∃ t, bits_OnesCount8.f (Go.bits .andNot .u8 (n.val : Int) 1) = some t ∧ (Int.tmod t 2 = 0 → Go.bits .or .u8 (Go.bits .andNot .u8 (n.val : Int) 1) 1 = oddB n.val) ∧ (¬ Int.tmod t 2 = 0 → Go.bits .andNot .u8 (n.val : Int) 1 = oddB n.val) := by
  have h : ∀ n : Fin 256, (match bits_OnesCount8.f (Go.bits .andNot .u8 (n.val : Int) 1) with | some t => (if Int.tmod t 2 = 0 then Go.bits .or .u8 (Go.bits .andNot .u8 (n.val : Int) 1) 1 else Go.bits .andNot .u8 (n.val : Int) 1) == oddB n.val | none => false) = true := by
    decide +kernel
  intro n
  have h' := h n
  split at h'
  · rename_i t ht
    refine ⟨t, ht, fun h0 => ?_, fun h0 => ?_⟩
    · rw [if_pos h0] at h'; exact beq_iff_eq.1 h'
    · rw [if_neg h0] at h'; exact beq_iff_eq.1 h'
  · cases h'
theorem fin_of {b : Int} (h : 0 ≤ b ∧ b ≤ 255) : ∃ n : Fin 256, b = (n.val : Int) := ⟨⟨b.toNat, by omega⟩, by simp; omega⟩

theorem spec_odd_loop (l : List Int) (hl : l.length ≤ 140737488355327) (hb : ∀ x ∈ l, 0 ≤ x ∧ x ≤ 255) (d : Nat) : ∀ (k i : Nat) (x3 : List Int), x3.length = i → i ≤ l.length → l.length - i = d → 9 * d < k →
    spec_OddParity.l0 k x3 l (l.length : Int) (i : Int) = some (x3 ++ (l.drop i).map oddB) := by
  induction d with
  | zero =>
    intro k i x3 h3 hi hd hk
    obtain ⟨k, rfl⟩ : ∃ m, k = m + 1 := ⟨k - 1, by omega⟩
    rw [spec_OddParity.l0, if_neg (by omega), List.drop_of_length_le (by omega)]
    simp
  | succ d ih =>
    intro k i x3 h3 hi hd hk
    obtain ⟨k, rfl⟩ : ∃ m, k = m + 8 + 1 := ⟨k - 9, by omega⟩
    have hlt : i < l.length := by omega
    obtain ⟨n, hn⟩ := fin_of (hb l[i] (List.getElem_mem hlt))
    have e1 : x3.length < 140737488355328 := by omega
    have e2 := ih k (i + 1) (x3 ++ [oddB n.val]) (by simp [h3]) (by omega) (by omega) (by omega)
    have e3 : (i : Int) < (l.length : Int) := by omega
    have e4 : 0 ≤ (i : Int) := by omega
    have e5 : i < 9223372036854775807 := by omega
    have hrd : rd l (i : Int) = (n.val : Int) := by rw [rd_nat, List.getD_eq_getElem?_getD, List.getElem?_eq_getElem hlt]; exact hn
    rw [spec_OddParity.l0, if_pos e3, if_pos e4, if_pos e3, l1_all, hrd, wrap64_succ e5, ← List.getElem_cons_drop hlt, List.map_cons, hn]
    have hs := spec_byte n
    by_cases h0 : Int.tmod (ones7 (n.val : Int)) 2 = 0
    · have h1 := hs.1 h0
      rw [if_pos h0, if_pos e1, h1, e2, List.append_assoc, List.singleton_append]
    · have h1 := hs.2 h0
      rw [if_neg h0, if_pos e1, h1, e2, List.append_assoc, List.singleton_append]

theorem impl_odd_loop (l : List Int) (hl : l.length ≤ 140737488355327) (hb : ∀ x ∈ l, 0 ≤ x ∧ x ≤ 255) (d : Nat) : ∀ (k i : Nat) (x3 : List Int), x3.length = i → i ≤ l.length → l.length - i = d → d < k →
    impl_OddParity.l0 k x3 l (l.length : Int) (i : Int) = some (x3 ++ (l.drop i).map oddB) := by
  induction d with
  | zero =>
    intro k i x3 h3 hi hd hk
    obtain ⟨k, rfl⟩ : ∃ m, k = m + 1 := ⟨k - 1, by omega⟩
    rw [impl_OddParity.l0, if_neg (by omega), List.drop_of_length_le (by omega)]
    simp
  | succ d ih =>
    intro k i x3 h3 hi hd hk
    obtain ⟨k, rfl⟩ : ∃ m, k = m + 1 := ⟨k - 1, by omega⟩
    have hlt : i < l.length := by omega
    obtain ⟨n, hn⟩ := fin_of (hb l[i] (List.getElem_mem hlt))
    have e1 : x3.length < 140737488355328 := by omega
    have e2 := ih k (i + 1) (x3 ++ [oddB n.val]) (by simp [h3]) (by omega) (by omega) (by omega)
    have e3 : (i : Int) < (l.length : Int) := by omega
    have e4 : 0 ≤ (i : Int) := by omega
    have e5 : i < 9223372036854775807 := by omega
    have hrd : rd l (i : Int) = (n.val : Int) := by rw [rd_nat, List.getD_eq_getElem?_getD, List.getElem?_eq_getElem hlt]; exact hn
    obtain ⟨t, ht, h1, h2⟩ := impl_byte n
    rw [impl_OddParity.l0, if_pos e3, if_pos e4, if_pos e3, hrd, ht, Option.bind_some, wrap64_succ e5, ← List.getElem_cons_drop hlt, List.map_cons, hn]
    by_cases h0 : Int.tmod t 2 = 0
    · have h3' := h1 h0
      rw [if_pos h0, if_pos e1, h3', e2, List.append_assoc, List.singleton_append]
    · have h3' := h2 h0
      rw [if_neg h0, if_pos e1, h3', e2, List.append_assoc, List.singleton_append]

/-- OddParity, plainly. -/
def oddL (l : List Int) : List Int := if l.length > 4096 then [] else l.map oddB
theorem spec_odd_eq (l : List Int) (hl : l.length ≤ 140737488355327) (hb : ∀ x ∈ l, 0 ≤ x ∧ x ≤ 255) (k : Nat) (hk : 9 * l.length < k) : spec_OddParity.f k l = some (oddL l) := by
  unfold spec_OddParity.f oddL
  by_cases h : l.length > 4096
  · rw [if_pos (by omega), if_pos h]
  · rw [if_neg (by omega), if_neg h]
    simpa using spec_odd_loop l hl hb l.length k 0 [] rfl (by omega) (by omega) hk
theorem impl_odd_eq (l : List Int) (hl : l.length ≤ 140737488355327) (hb : ∀ x ∈ l, 0 ≤ x ∧ x ≤ 255) (k : Nat) (hk : l.length < k) : impl_OddParity.f k l = some (oddL l) := by
  unfold impl_OddParity.f oddL
  rw [Option.bind_some]
  by_cases h : l.length > 4096
  · rw [if_pos (by omega), if_pos h]
  · rw [if_neg (by omega), if_neg h]
    simpa using impl_odd_loop l hl hb l.length k 0 [] rfl (by omega) (by omega) hk
theorem oddL_length (l : List Int) : (oddL l).length ≤ l.length := by unfold oddL; split <;> simp

end Go.Proofs.Ytbjlpdfhjapbkaa.B
