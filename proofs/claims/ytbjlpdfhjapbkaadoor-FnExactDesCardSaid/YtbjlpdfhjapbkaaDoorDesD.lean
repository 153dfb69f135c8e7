/- What the printed l1Unbits computes: bytes of bits. Conditions: bits, eight to a byte, rounds enough. -/
import Derived.Test.YtbjlpdfhjapbkaaDoorDesC
namespace Go.Proofs.YtbjlpdfhjapbkaaDoor.B
open Go.RowKit Go.Proofs.YtbjlpdfhjapbkaaDoorW.PrintWords Go.Proofs.YtbjlpdfhjapbkaaDoorW.PrintLast Go.Proofs.YtbjlpdfhjapbkaaDoorW.PrintMore
open Go.Proofs.YtbjlpdfhjapbkaaDoor Go.Proofs.YtbjlpdfhjapbkaaDoor.D
set_option linter.unusedVariables false

theorem or_step : ∀ v : Fin 128, Go.bits .or .u8 (((v.val : Int) * 2) % 256) 0 = 2 * (v.val : Int) ∧ Go.bits .or .u8 (((v.val : Int) * 2) % 256) 1 = 2 * (v.val : Int) + 1 := by decide +kernel
theorem or_bit {v x : Int} (h0 : 0 ≤ v) (h1 : v < 128) (hx : x = 0 ∨ x = 1) : Go.bits .or .u8 ((v * 2) % 256) x = 2 * v + x := by
  have h := or_step ⟨v.toNat, by omega⟩
  simp only [show ((v.toNat : Nat) : Int) = v by omega] at h
  rcases hx with rfl | rfl
  · rw [h.1]; omega
  · exact h.2
theorem nth_mid (pre : List Int) (v : Int) (rest : List Int) : nth (pre ++ v :: rest) pre.length = v := by simp [nth]
theorem set_mid (pre : List Int) (v w : Int) (rest : List Int) : (pre ++ v :: rest).set pre.length w = pre ++ w :: rest := by simp
theorem unbits_step (k : Nat) (pre rest bs : List Int) (v : Int) (j : Nat) (hj : j < 8) (hi : 8 * pre.length + j < bs.length) (hl : bs.length ≤ 8192) (hb : Bits bs) (h0 : 0 ≤ v) (h1 : v < 128) :
    spec_l1Unbits.l0 (k + 1) (pre ++ v :: rest) bs (bs.length : Int) ((8 * pre.length + j : Nat) : Int) = spec_l1Unbits.l0 k (pre ++ (2 * v + nth bs (8 * pre.length + j)) :: rest) bs (bs.length : Int) ((8 * pre.length + j + 1 : Nat) : Int) := by
  have e : wrap64 (Int.tdiv ((8 * pre.length + j : Nat) : Int) 8) = (pre.length : Int) := by
    rw [Int.tdiv_eq_ediv_of_nonneg (by omega), wrap64_in (by omega)]
    omega
  have hlen : (pre.length : Int) < ((pre ++ v :: rest).length : Int) := by simp; omega
  rw [spec_l1Unbits.l0, if_pos (by omega), if_pos (by omega), if_pos (by omega), e, if_pos (by omega), if_pos hlen, Int.toNat_natCast, rd_nth, rd_nth, nth_mid, set_mid, or_bit h0 h1 (hb.nth _), wrap64_succ (by omega)]
theorem unbits_append (n : Nat) : ∀ (a b : List Int), a.length = 8 * n → unbits (a ++ b) = unbits a ++ unbits b := by
  induction n with
  | zero =>
    intro a b ha
    obtain rfl := List.eq_nil_of_length_eq_zero (by omega : a.length = 0)
    rfl
  | succ n ih =>
    intro a b ha
    obtain ⟨x0, x1, x2, x3, x4, x5, x6, x7, t, rfl⟩ := list8 (l := a) (by omega)
    simp only [List.cons_append, unbits]
    rw [ih t b (by simp at ha; omega)]
theorem nth_drop (l : List Int) (i j : Nat) : nth (l.drop i) j = nth l (i + j) := by simp [nth, List.getD_eq_getElem?_getD, List.getElem?_drop]
theorem nth_zero (x : Int) (t : List Int) : nth (x :: t) 0 = x := rfl
theorem nth_succ (x : Int) (t : List Int) (j : Nat) : nth (x :: t) (j + 1) = nth t j := by simp [nth]
theorem unbits_byte (k : Nat) (pre rest bs : List Int) (hi : 8 * pre.length + 8 ≤ bs.length) (hl : bs.length ≤ 8192) (hb : Bits bs) :
    spec_l1Unbits.l0 (k + 8) (pre ++ 0 :: rest) bs (bs.length : Int) ((8 * pre.length : Nat) : Int) = spec_l1Unbits.l0 k (pre ++ num ((bs.drop (8 * pre.length)).take 8) :: rest) bs (bs.length : Int) ((8 * pre.length + 8 : Nat) : Int) := by
  obtain ⟨x0, x1, x2, x3, x4, x5, x6, x7, t, ht⟩ := list8 (l := bs.drop (8 * pre.length)) (by rw [List.length_drop]; omega)
  have hbt : Bits (bs.drop (8 * pre.length)) := hb.drop _
  have b : ∀ j, nth bs (8 * pre.length + j) = nth (x0 :: x1 :: x2 :: x3 :: x4 :: x5 :: x6 :: x7 :: t) j := fun j => by rw [← ht, nth_drop]
  rw [ht] at hbt
  have z : ∀ x ∈ (x0 :: x1 :: x2 :: x3 :: x4 :: x5 :: x6 :: x7 :: t), 0 ≤ x ∧ x ≤ 1 := fun x hx => by rcases hbt x hx with h | h <;> omega
  obtain ⟨z0, z1, z2, z3, z4, z5, z6, z7⟩ : (0 ≤ x0 ∧ x0 ≤ 1) ∧ (0 ≤ x1 ∧ x1 ≤ 1) ∧ (0 ≤ x2 ∧ x2 ≤ 1) ∧ (0 ≤ x3 ∧ x3 ≤ 1) ∧ (0 ≤ x4 ∧ x4 ≤ 1) ∧ (0 ≤ x5 ∧ x5 ≤ 1) ∧ (0 ≤ x6 ∧ x6 ≤ 1) ∧ (0 ≤ x7 ∧ x7 ≤ 1) :=
    ⟨z _ (by simp), z _ (by simp), z _ (by simp), z _ (by simp), z _ (by simp), z _ (by simp), z _ (by simp), z _ (by simp)⟩
  clear z
  have s0 := unbits_step (k + 7) pre rest bs 0 0 (by omega) (by omega) hl hb (by omega) (by omega)
  rw [b 0, nth_zero] at s0
  have s1 := unbits_step (k + 6) pre rest bs (2 * 0 + x0) 1 (by omega) (by omega) hl hb (by omega) (by omega)
  rw [b 1, nth_succ, nth_zero] at s1
  have s2 := unbits_step (k + 5) pre rest bs (2 * (2 * 0 + x0) + x1) 2 (by omega) (by omega) hl hb (by omega) (by omega)
  rw [b 2, nth_succ, nth_succ, nth_zero] at s2
  have s3 := unbits_step (k + 4) pre rest bs (2 * (2 * (2 * 0 + x0) + x1) + x2) 3 (by omega) (by omega) hl hb (by omega) (by omega)
  rw [b 3, nth_succ, nth_succ, nth_succ, nth_zero] at s3
  have s4 := unbits_step (k + 3) pre rest bs (2 * (2 * (2 * (2 * 0 + x0) + x1) + x2) + x3) 4 (by omega) (by omega) hl hb (by omega) (by omega)
  rw [b 4, nth_succ, nth_succ, nth_succ, nth_succ, nth_zero] at s4
  have s5 := unbits_step (k + 2) pre rest bs (2 * (2 * (2 * (2 * (2 * 0 + x0) + x1) + x2) + x3) + x4) 5 (by omega) (by omega) hl hb (by omega) (by omega)
  rw [b 5, nth_succ, nth_succ, nth_succ, nth_succ, nth_succ, nth_zero] at s5
  have s6 := unbits_step (k + 1) pre rest bs (2 * (2 * (2 * (2 * (2 * (2 * 0 + x0) + x1) + x2) + x3) + x4) + x5) 6 (by omega) (by omega) hl hb (by omega) (by omega)
  rw [b 6, nth_succ, nth_succ, nth_succ, nth_succ, nth_succ, nth_succ, nth_zero] at s6
  have s7 := unbits_step k pre rest bs (2 * (2 * (2 * (2 * (2 * (2 * (2 * 0 + x0) + x1) + x2) + x3) + x4) + x5) + x6) 7 (by omega) (by omega) hl hb (by omega) (by omega)
  rw [b 7, nth_succ, nth_succ, nth_succ, nth_succ, nth_succ, nth_succ, nth_succ, nth_zero] at s7
  have e : num ((bs.drop (8 * pre.length)).take 8) = 2 * (2 * (2 * (2 * (2 * (2 * (2 * (2 * 0 + x0) + x1) + x2) + x3) + x4) + x5) + x6) + x7 := by rw [ht]; rfl
  rw [e]
  exact s0.trans (s1.trans (s2.trans (s3.trans (s4.trans (s5.trans (s6.trans s7))))))
theorem unbits_loop (bs : List Int) (n : Nat) (hn : bs.length = 8 * n) (hl : bs.length ≤ 8192) (hb : Bits bs) (d : Nat) : ∀ (k q : Nat), q ≤ n → n - q = d → 8 * d < k →
    spec_l1Unbits.l0 k (unbits (bs.take (8 * q)) ++ List.replicate (n - q) 0) bs (bs.length : Int) ((8 * q : Nat) : Int) = some (unbits bs) := by
  induction d with
  | zero =>
    intro k q hq hd hk
    obtain ⟨k, rfl⟩ : ∃ m, k = m + 1 := ⟨k - 1, by omega⟩
    rw [spec_l1Unbits.l0, if_neg (by omega), hd, List.take_of_length_le (by omega)]
    simp
  | succ d ih =>
    intro k q hq hd hk
    obtain ⟨k, rfl⟩ : ∃ m, k = m + 8 := ⟨k - 8, by omega⟩
    have hpl : (unbits (bs.take (8 * q))).length = q := unbits_length q _ (by rw [List.length_take]; omega)
    have hs := unbits_byte k (unbits (bs.take (8 * q))) (List.replicate d 0) bs (by rw [hpl]; omega) hl hb
    rw [hpl] at hs
    rw [hd, List.replicate_succ, hs]
    have hn' := ih k (q + 1) (by omega) (by omega) (by omega)
    have e : unbits (bs.take (8 * (q + 1))) = unbits (bs.take (8 * q)) ++ [num ((bs.drop (8 * q)).take 8)] := by
      have h1 : bs.take (8 * (q + 1)) = bs.take (8 * q) ++ (bs.drop (8 * q)).take 8 := by
        rw [show 8 * (q + 1) = 8 * q + 8 by omega, List.take_add]
      rw [h1, unbits_append q _ _ (by rw [List.length_take]; omega)]
      obtain ⟨x0, x1, x2, x3, x4, x5, x6, x7, t, ht⟩ := list8 (l := bs.drop (8 * q)) (by rw [List.length_drop]; omega)
      rw [ht]
      rfl
    rw [e, show n - (q + 1) = d by omega, List.append_assoc, List.singleton_append] at hn'
    exact hn'
theorem spec_unbits_eq (bs : List Int) (n : Nat) (hn : bs.length = 8 * n) (hl : bs.length ≤ 8192) (hb : Bits bs) (k : Nat) (hk : bs.length < k) : spec_l1Unbits.f k bs = some (unbits bs) := by
  unfold spec_l1Unbits.f
  have e : wrap64 ((bs.length : Int) / 8) = (n : Int) := by rw [wrap64_in (by omega)]; omega
  rw [e, if_pos (by omega), if_pos (by omega), Int.toNat_natCast]
  have := unbits_loop bs n hn hl hb n k 0 (by omega) (by omega) (by omega)
  simpa [unbits] using this
end Go.Proofs.YtbjlpdfhjapbkaaDoor.B
