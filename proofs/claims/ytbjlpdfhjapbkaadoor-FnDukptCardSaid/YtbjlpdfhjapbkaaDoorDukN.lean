/- FnDukpt: what the drawing functions answer; laws.cut, laws.xor, laws.same; a counter without its lowest bit. Conditions: bytes. -/
import Derived.Test.YtbjlpdfhjapbkaaDoorDukP
namespace Go.Proofs.YtbjlpdfhjapbkaaDoor
open Go.RowKit Go.Proofs.YtbjlpdfhjapbkaaDoorW.PrintWords Go.Proofs.YtbjlpdfhjapbkaaDoorW.PrintLast Go.Proofs.YtbjlpdfhjapbkaaDoorW.PrintMore Go.Proofs.YtbjlpdfhjapbkaaDoor.D
open Go.Proofs.YtbjlpdfhjapbkaaDoor.B (xorL xorL_length)
set_option linter.unusedVariables false
namespace LDuk
theorem byte_rd (l : List Int) (hb : Bytes l) (i : Int) : 0 ≤ rd l i ∧ rd l i ≤ 255 := by
  unfold rd
  rw [List.getD_eq_getElem?_getD]
  cases h : l[i.toNat]? with
  | none => exact ⟨Int.le_refl _, by decide⟩
  | some v => exact hb v (List.mem_of_getElem? h)
theorem cut_loop (x0 : List Int) (x1 n : Nat) (h1 : x1 ≤ 1000) (hn : n ≤ 1000) (hb : Bytes x0) (hl : x0.length ≤ 1048576) : ∀ (d i : Nat) (x7 : List Int), x7.length = n → Bytes x7 → i + d = n → ∀ k, d < k →
    ∃ r, laws_cut.l0 k x0 (x1 : Int) x7 (n : Int) (i : Int) = some r ∧ r.length = n ∧ Bytes r
  | 0, i, x7, h7, hb7, hi, k + 1, _ => by
    refine ⟨x7, ?_, h7, hb7⟩
    rw [laws_cut.l0, if_neg (by omega)]
  | d + 1, i, x7, h7, hb7, hi, k + 1, hk => by
    have hw1 : wrap64 ((x1 : Int) + (i : Int)) = (x1 : Int) + (i : Int) := B.wrap64_in (by omega)
    have hw2 : wrap64 ((i : Int) + 1) = ((i + 1 : Nat) : Int) := by rw [B.wrap64_in (by omega)]; omega
    rw [laws_cut.l0, if_pos (by omega), hw1, hw2]
    by_cases hlt : (x1 : Int) + (i : Int) < (x0.length : Int)
    · rw [if_pos hlt, if_pos (by omega), if_pos (by omega), if_pos (by omega)]
      refine cut_loop x0 x1 n h1 hn hb hl d (i + 1) _ (by rw [List.length_set]; exact h7) ?_ (by omega) k (by omega)
      intro x hx
      rcases List.mem_or_eq_of_mem_set hx with h | rfl
      · exact hb7 x h
      · exact byte_rd x0 hb _
    · rw [if_neg hlt]
      exact cut_loop x0 x1 n h1 hn hb hl d (i + 1) _ h7 hb7 (by omega) k (by omega)
theorem cut_some (x0 : List Int) (x1 n : Nat) (h1 : x1 ≤ 1000) (hn : n ≤ 1000) (hb : Bytes x0) (hl : x0.length ≤ 1048576) (k : Nat) (hk : n < k) :
    ∃ r, laws_cut.f k x0 (x1 : Int) (n : Int) = some r ∧ r.length = n ∧ Bytes r := by
  unfold laws_cut.f
  rw [if_pos (by omega), if_pos (by omega), Option.bind_some, Int.toNat_natCast, List.length_replicate]
  exact cut_loop x0 x1 n h1 hn hb hl n 0 _ List.length_replicate (fun x hx => by rw [(List.mem_replicate.1 hx).2]; omega) (by omega) k hk
theorem same_refl (l : List Int) : laws_same.f l l = some true := by simp [laws_same.f]
theorem xor_loop (a b : List Int) (hab : a.length ≤ b.length) (hl : a.length ≤ 1048576) (d : Nat) : ∀ (k i : Nat) (x5 : List Int), x5.length = a.length → i ≤ a.length → a.length - i = d → d < k →
    laws_xor.l0 k a b x5 (a.length : Int) (i : Int) = some (x5.take i ++ (xorL a b).drop i) := by
  induction d with
  | zero =>
    intro k i x5 h5 hi hd hk
    obtain ⟨k, rfl⟩ : ∃ m, k = m + 1 := ⟨k - 1, by omega⟩
    rw [laws_xor.l0, if_neg (by omega), List.take_of_length_le (by omega), List.drop_of_length_le (by rw [xorL_length a b hab]; omega), List.append_nil]
  | succ d ih =>
    intro k i x5 h5 hi hd hk
    obtain ⟨k, rfl⟩ : ∃ m, k = m + 1 := ⟨k - 1, by omega⟩
    have hlt : i < a.length := by omega
    have hlb : i < b.length := by omega
    have hx : i < (xorL a b).length := by rw [xorL_length a b hab]; exact hlt
    have hn := ih k (i + 1) (x5.set i (Go.bits .xor .u8 (nth a i) (nth b i))) (by simpa using h5) (by omega) (by omega) (by omega)
    rw [laws_xor.l0, if_pos (by omega), if_pos (by omega), if_pos (by omega), if_pos (by omega), if_pos (by omega), rd_nth, rd_nth, Int.toNat_natCast, B.wrap64_succ (by omega), hn]
    congr 1
    rw [B.take_set_succ _ _ _ (by omega), List.append_assoc, List.singleton_append, ← List.getElem_cons_drop hx]
    congr 2
    simp [xorL, nth_at a i hlt, nth_at b i hlb]
theorem xor_eq (a b : List Int) (hab : a.length ≤ b.length) (hl : a.length ≤ 1048576) (k : Nat) (hk : a.length < k) : laws_xor.f k a b = some (xorL a b) := by
  unfold laws_xor.f
  rw [if_pos (by omega), if_pos (by omega)]
  have := xor_loop a b hab hl a.length k 0 (List.replicate ((a.length : Int)).toNat 0) (by simp) (by omega) (by omega) hk
  simpa using this

/-! What is drawn -/
theorem next_some (l : List Int) (hb : Bytes l) (hl : l.length ≤ 1048576) (p : Int) (hp : 0 ≤ p ∧ p ≤ l.length) : ∃ c q, spec_l1R_next.f l p = some (c, q) ∧ (0 ≤ c ∧ c ≤ 255) ∧ 0 ≤ q ∧ q ≤ l.length := by
  unfold spec_l1R_next.f
  by_cases h : p ≥ (l.length : Int)
  · rw [if_pos h]
    exact ⟨_, _, rfl, by decide, hp⟩
  · have hc := byte_rd l hb p
    rw [if_neg h, if_pos hp.1, if_pos (by omega), B.wrap64_in (by omega), B.wrap64_in (by omega)]
    exact ⟨_, _, rfl, hc, by omega, by omega⟩
theorem some_loop (l : List Int) (hb : Bytes l) (hl : l.length ≤ 1048576) : ∀ (d : Nat) (acc : List Int) (p : Int), d ≤ 1000 → acc.length ≤ 1000000 → Bytes acc → (0 ≤ p ∧ p ≤ l.length) → acc.length + d ≤ 1000000 → ∀ k, d < k →
    ∃ r q, spec_l1Some.l0 k (d : Int) acc l p = some (r, q) ∧ r.length = acc.length + d ∧ Bytes r ∧ 0 ≤ q ∧ q ≤ l.length
  | 0, acc, p, _, _, hba, hp, _, k + 1, _ => by
    rw [spec_l1Some.l0, if_neg (by omega)]
    exact ⟨_, _, rfl, rfl, hba, hp⟩
  | d + 1, acc, p, hd, ha, hba, hp, had, k + 1, hk => by
    obtain ⟨c, q, hn, hc, hq⟩ := next_some l hb hl p hp
    have hw : wrap64 (((d + 1 : Nat) : Int) - 1) = (d : Int) := by rw [B.wrap64_in (by omega)]; omega
    rw [spec_l1Some.l0, if_pos (by omega), hn, Option.bind_some, if_pos (by omega), hw]
    obtain ⟨r, q', h1, h2, h3⟩ := some_loop l hb hl d (acc ++ [c % 256]) q (by omega) (by rw [List.length_append, List.length_singleton]; omega) (hba.append (fun x hx => by rw [List.mem_singleton.1 hx]; omega)) hq (by rw [List.length_append, List.length_singleton]; omega) k (by omega)
    exact ⟨r, q', h1, by rw [h2, List.length_append, List.length_singleton]; omega, h3⟩
theorem some_some (l : List Int) (hb : Bytes l) (hl : l.length ≤ 1048576) (p : Int) (hp : 0 ≤ p ∧ p ≤ l.length) (n : Int) (hn : 0 ≤ n ∧ n ≤ 1000) (k : Nat) (hk : n.toNat < k) :
    ∃ r q, spec_l1Some.f k l p n = some (r, q) ∧ r.length = n.toNat ∧ Bytes r ∧ 0 ≤ q ∧ q ≤ l.length := by
  obtain ⟨r, q, h1, h2, h3⟩ := some_loop l hb hl n.toNat [] p (by omega) (by simp) (fun x hx => by cases hx) hp (by simp; omega) k hk
  have e : ((n.toNat : Nat) : Int) = n := by omega
  rw [e] at h1
  exact ⟨r, q, h1, by rw [h2]; simp, h3⟩
theorem len_fin : ∀ n : Fin 256, Int.tmod (n.val : Int) 16 = 15 → 0 ≤ Int.tmod (wrap64 (Int.tdiv (n.val : Int) 16)) 4 ∧ Int.tmod (wrap64 (Int.tdiv (n.val : Int) 16)) 4 < 4 ∧ 0 ≤ rd [0, wrap64 (16 - 1), wrap64 (16 + 1), wrap64 (2 * 16)] (Int.tmod (wrap64 (Int.tdiv (n.val : Int) 16)) 4) ∧ rd [0, wrap64 (16 - 1), wrap64 (16 + 1), wrap64 (2 * 16)] (Int.tmod (wrap64 (Int.tdiv (n.val : Int) 16)) 4) ≤ 32 := by decide +kernel
theorem len_some (l : List Int) (hb : Bytes l) (hl : l.length ≤ 1048576) (p : Int) (hp : 0 ≤ p ∧ p ≤ l.length) : ∃ n q, spec_l1Len.f l p 16 = some (n, q) ∧ (0 ≤ n ∧ n ≤ 32) ∧ 0 ≤ q ∧ q ≤ l.length := by
  obtain ⟨c, q, hn, hc, hq⟩ := next_some l hb hl p hp
  unfold spec_l1Len.f
  rw [hn, Option.bind_some]
  dsimp only
  by_cases h : Int.tmod c 16 = 15
  · obtain ⟨m, rfl⟩ : ∃ m : Fin 256, c = (m.val : Int) := ⟨⟨c.toNat, by omega⟩, by simp; omega⟩
    obtain ⟨h1, h2, h3, h4⟩ := len_fin m h
    rw [if_pos h, Option.bind_some, if_pos h1]
    exact ⟨_, _, if_pos (by simpa using h2), ⟨h3, h4⟩, hq⟩
  · rw [if_neg h]
    exact ⟨_, _, rfl, by decide, hq⟩
theorem ksn_some (l : List Int) (hb : Bytes l) (hl : l.length ≤ 1048576) : ∃ ksn q, spec_l3Ksn.f 20 l 0 = some (ksn, q) ∧ ksn.length = 10 ∧ Bytes ksn ∧ 0 ≤ q ∧ q ≤ l.length := by
  obtain ⟨r, q0, h0, h1, h2, h3⟩ := some_some l hb hl 0 (by omega) 7 (by decide) 20 (by decide)
  obtain ⟨c1, q1, n1, hc1, hq1⟩ := next_some l hb hl q0 h3
  obtain ⟨c2, q2, n2, hc2, hq2⟩ := next_some l hb hl q1 hq1
  obtain ⟨c3, q3, n3, hc3, hq3⟩ := next_some l hb hl q2 hq2
  obtain ⟨c4, q4, n4, hc4, hq4⟩ := next_some l hb hl q3 hq3
  have h1' : r.length = 7 := h1
  unfold spec_l3Ksn.f
  rw [h0, Option.bind_some]
  dsimp only
  rw [n1, Option.bind_some]
  dsimp only
  by_cases h : Int.tmod c1 4 = 3
  · rw [if_pos h, n2, Option.bind_some]
    dsimp only
    rw [n3, Option.bind_some]
    dsimp only
    rw [n4, Option.bind_some, Option.bind_some, if_pos (by rw [h1']; show 7 + 3 < _; decide)]
    refine ⟨_, _, rfl, by rw [List.length_append, h1']; rfl, h2.append ?_, hq4⟩
    intro x hx
    simp only [List.mem_cons, List.not_mem_nil, or_false] at hx
    rcases hx with rfl | rfl | rfl <;> omega
  · rw [if_neg h, n2, Option.bind_some]
    dsimp only
    rw [n3, Option.bind_some]
    dsimp only
    rw [n4, Option.bind_some, Option.bind_some, if_pos (by rw [h1']; show 7 + 3 < _; decide)]
    refine ⟨_, _, rfl, by rw [List.length_append, h1']; rfl, h2.append ?_, hq4⟩
    intro x hx
    simp only [List.mem_cons, List.not_mem_nil, or_false] at hx
    rcases hx with rfl | rfl | rfl <;> omega
theorem draw_some (l : List Int) (hb : Bytes l) (hl : l.length ≤ 1048576) : ∃ s ksn, spec_DrawDukptKey.f l = some (s, ksn) ∧ Bytes ksn ∧ (ksn.length = 10 ∨ ksn.length = 9) := by
  obtain ⟨ksn, q0, h0, h1, h2, h3⟩ := ksn_some l hb hl
  obtain ⟨c1, q1, n1, hc1, hq1⟩ := next_some l hb hl q0 h3
  obtain ⟨n, q2, n2, hn, hq2⟩ := len_some l hb hl q1 hq1
  obtain ⟨s, q3, n3, _, _, hq3⟩ := some_some l hb hl q2 hq2 n (by omega) 60 (by omega)
  unfold spec_DrawDukptKey.f
  rw [h0, Option.bind_some]
  dsimp only
  rw [n1, Option.bind_some]
  dsimp only
  rw [n2, Option.bind_some]
  dsimp only
  rw [n3, Option.bind_some, if_pos h1]
  dsimp only
  by_cases h : Int.tmod c1 16 = 15
  · rw [if_pos h]
    exact ⟨_, _, rfl, h2.take 9, Or.inr (by rw [List.length_take, h1]; rfl)⟩
  · rw [if_neg h]
    exact ⟨_, _, rfl, h2, Or.inl h1⟩

/-! The counter without its lowest bit -/
theorem low_drop (j q : Nat) (h : 2 ^ j * (2 * q + 1) < 2 ^ 64) : 2 ^ j * (2 * q + 1) &&& (2 ^ j * (2 * q + 1) - 1) = 2 ^ j * (2 * q) := by
  have hp : 0 < 2 ^ j := Nat.two_pow_pos j
  have hxx : 2 ^ j * (2 * q + 1) - 1 = 2 ^ j * (2 * q) + (2 ^ j - 1) := by
    have h2 : 2 ^ j * (2 * q + 1) = 2 ^ j * (2 * q) + 2 ^ j := by rw [Nat.mul_add, Nat.mul_one]
    omega
  apply Nat.eq_of_testBit_eq
  intro i
  rw [Nat.testBit_and, hxx, Nat.testBit_two_pow_mul_add _ (by omega : 2 ^ j - 1 < 2 ^ j), Nat.testBit_two_pow_mul, Nat.testBit_two_pow_mul]
  by_cases hij : i < j
  · have : ¬ j ≤ i := by omega
    simp [this]
  · have hji : j ≤ i := by omega
    rw [if_neg hij]
    by_cases he : j = i
    · subst he
      simp
    · have hk : i - j = (i - j - 1) + 1 := by omega
      have t1 : (2 * q + 1).testBit (i - j) = q.testBit (i - j - 1) := by rw [hk, Nat.testBit_succ]; congr 1; omega
      have t2 : (2 * q).testBit (i - j) = q.testBit (i - j - 1) := by rw [hk, Nat.testBit_succ]; congr 1; omega
      rw [t1, t2]
      simp [hji]
theorem drop_bits (j q : Nat) (h : 2 ^ j * (2 * q + 1) < 2097152) : Go.bits .and .i64 ((2 ^ j * (2 * q + 1) : Nat) : Int) (wrap64 (((2 ^ j * (2 * q + 1) : Nat) : Int) - 1)) = ((2 ^ j * (2 * q) : Nat) : Int) := by
  have hp : 0 < 2 ^ j := Nat.two_pow_pos j
  have hle : 2 ^ j ≤ 2 ^ j * (2 * q + 1) := Nat.le_mul_of_pos_right _ (by omega)
  have hl := low_drop j q (by omega)
  have hb : 2 ^ j * (2 * q) ≤ 2 ^ j * (2 * q + 1) := Nat.mul_le_mul_left _ (by omega)
  obtain ⟨b, hbe⟩ : ∃ b, b = 2 ^ j * (2 * q) := ⟨_, rfl⟩
  obtain ⟨a, ha⟩ : ∃ a, a = 2 ^ j * (2 * q + 1) := ⟨_, rfl⟩
  rw [← ha] at hl h hle hb ⊢
  rw [← hbe] at hl hb ⊢
  have hw : wrap64 ((a : Int) - 1) = ((a - 1 : Nat) : Int) := by rw [B.wrap64_in (by omega)]; omega
  rw [hw]
  have e1 : (BitVec.ofInt 64 (a : Int)).toNat = a := by rw [BitVec.ofInt_natCast, BitVec.toNat_ofNat]; omega
  have e2 : (BitVec.ofInt 64 ((a - 1 : Nat) : Int)).toNat = a - 1 := by rw [BitVec.ofInt_natCast, BitVec.toNat_ofNat]; omega
  show IntKind.i64.wrap (((BitVec.ofInt 64 (a : Int)) &&& (BitVec.ofInt 64 ((a - 1 : Nat) : Int))).toNat : Int) = _
  rw [BitVec.toNat_and, e1, e2, hl, IntKind.wrap_i64]
  omega
theorem low_of (n : Nat) (h : 0 < n) : ∃ j q, n = 2 ^ j * (2 * q + 1) := by
  induction n using Nat.strongRecOn with
  | ind n ih =>
    rcases Nat.mod_two_eq_zero_or_one n with h2 | h2
    · obtain ⟨j, q, hq⟩ := ih (n / 2) (by omega) (by omega)
      refine ⟨j + 1, q, ?_⟩
      rw [Nat.pow_succ, Nat.mul_comm (2 ^ j) 2, Nat.mul_assoc, ← hq]
      omega
    · exact ⟨0, n / 2, by rw [Nat.pow_zero]; omega⟩
/-- The bits above the lowest are the same; the lowest; those below. -/
theorem bit_above (j q i : Nat) (hi : j < i) : 2 ^ j * (2 * q + 1) / 2 ^ i = 2 ^ j * (2 * q) / 2 ^ i := by
  obtain ⟨d, rfl⟩ : ∃ d, i = j + 1 + d := ⟨i - (j + 1), by omega⟩
  have hp : 0 < 2 ^ j := Nat.two_pow_pos j
  have e : ∀ x, 2 ^ j * x / 2 ^ (j + 1 + d) = x / 2 / 2 ^ d := fun x => by
    rw [Nat.pow_add, Nat.pow_add, Nat.pow_one, Nat.mul_assoc, ← Nat.div_div_eq_div_mul, Nat.mul_div_cancel_left _ hp, ← Nat.div_div_eq_div_mul]
  rw [e, e, show (2 * q + 1) / 2 = 2 * q / 2 by omega]
theorem bit_at (j q : Nat) : 2 ^ j * (2 * q + 1) / 2 ^ j % 2 = 1 ∧ 2 ^ j * (2 * q) / 2 ^ j % 2 = 0 := by
  have hp : 0 < 2 ^ j := Nat.two_pow_pos j
  rw [Nat.mul_div_cancel_left _ hp, Nat.mul_div_cancel_left _ hp]
  omega
theorem bit_below (j x i : Nat) (hi : i < j) : 2 ^ j * x / 2 ^ i % 2 = 0 := by
  obtain ⟨d, rfl⟩ : ∃ d, j = i + 1 + d := ⟨j - (i + 1), by omega⟩
  have hp : 0 < 2 ^ i := Nat.two_pow_pos i
  rw [Nat.pow_add, Nat.pow_add, Nat.pow_one, Nat.mul_assoc, Nat.mul_assoc, Nat.mul_div_cancel_left _ hp]
  omega
theorem key_above (bdk ksn : List Int) (j q : Nat) : ∀ s, s + j ≤ 20 → keyAt bdk ksn (2 ^ j * (2 * q + 1)) s = keyAt bdk ksn (2 ^ j * (2 * q)) s
  | 0, _ => rfl
  | s + 1, h => by
    have ih := key_above bdk ksn j q s (by omega)
    have hb := bit_above j q (20 - s) (by omega)
    have hh : hi (2 ^ j * (2 * q + 1)) (20 - s) = hi (2 ^ j * (2 * q)) (20 - s) := by unfold hi; rw [hb]
    rw [keyAt, keyAt, hb, hh, ih]
theorem key_below (bdk ksn : List Int) (j x : Nat) (hj : j ≤ 20) : ∀ d, d ≤ j → keyAt bdk ksn (2 ^ j * x) (21 - j + d) = keyAt bdk ksn (2 ^ j * x) (21 - j)
  | 0, _ => rfl
  | d + 1, h => by
    have ih := key_below bdk ksn j x hj d (by omega)
    have hb := bit_below j x (20 - (21 - j + d)) (by omega)
    rw [show 21 - j + (d + 1) = (21 - j + d) + 1 from rfl, keyAt, hb, if_neg (by decide), ih]
theorem key_less (bdk ksn : List Int) (j q : Nat) (hj : j ≤ 20) : keyAt bdk ksn (2 ^ j * (2 * q + 1)) 21 = stepL (keyAt bdk ksn (2 ^ j * (2 * q)) 21) (rL ksn ((2 ^ j * (2 * q + 1) : Nat) : Int)) := by
  have e1 := key_below bdk ksn j (2 * q + 1) hj j (Nat.le_refl _)
  have e2 := key_below bdk ksn j (2 * q) hj j (Nat.le_refl _)
  rw [show 21 - j + j = 21 by omega] at e1 e2
  have e3 := key_above bdk ksn j q (20 - j) (by omega)
  have hh : hi (2 ^ j * (2 * q + 1)) j = 2 ^ j * (2 * q + 1) := by unfold hi; rw [Nat.mul_div_cancel_left _ (Nat.two_pow_pos j), Nat.mul_comm]
  obtain ⟨b1, b2⟩ := bit_at j q
  rw [e1, e2, show 21 - j = (20 - j) + 1 by omega, keyAt, keyAt, show 20 - (20 - j) = j by omega, if_pos b1, if_neg (by omega), e3, hh]
theorem keyAt_base (bdk k1 k2 : List Int) (h : baseL k1 = baseL k2) (n : Nat) : ∀ s, keyAt bdk k1 n s = keyAt bdk k2 n s
  | 0 => by unfold keyAt initL; rw [h]
  | s + 1 => by
    have hr : ∀ m, rL k1 m = rL k2 m := fun m => by unfold rL putL; rw [h]
    rw [keyAt, keyAt, keyAt_base bdk k1 k2 h n s, hr]
/-- The serial number with another counter. -/
def lessL (ksn : List Int) (m : Int) : List Int := ((ksn.set 7 (Go.bits .or .u8 (Go.bits .and .u8 (nth ksn 7) 224) ((m / 65536) % 256))).set 8 ((m / 256) % 256)).set 9 (m % 256)
theorem less_good (ksn : List Int) (h : ksn.length = 10) (hb : Bytes ksn) (m : Nat) (h1 : m < 2097152) : (lessL ksn m).length = 10 ∧ Bytes (lessL ksn m) ∧ baseL (lessL ksn m) = baseL ksn ∧ cntN (lessL ksn m) = m := by
  obtain ⟨k0, k1, k2, k3, k4, k5, k6, k7, k8, k9, rfl⟩ := ten ksn h
  have b7 := hb k7 (by simp)
  have e7 := (and224 k7 b7).1
  have hm : (m : Int) / 65536 % 256 = (m : Int) / 65536 := by omega
  have eo := or_low5 (k7 / 32) ((m : Int) / 65536) (by omega) (by omega)
  have er : lessL [k0, k1, k2, k3, k4, k5, k6, k7, k8, k9] m = [k0, k1, k2, k3, k4, k5, k6, 32 * (k7 / 32) + (m : Int) / 65536, (m : Int) / 256 % 256, (m : Int) % 256] := by
    have : lessL [k0, k1, k2, k3, k4, k5, k6, k7, k8, k9] m = [k0, k1, k2, k3, k4, k5, k6, Go.bits .or .u8 (Go.bits .and .u8 k7 224) ((m : Int) / 65536 % 256), (m : Int) / 256 % 256, (m : Int) % 256] := rfl
    rw [this, e7, hm, eo]
  have e7' := (and224 (32 * (k7 / 32) + (m : Int) / 65536) (by omega)).1
  rw [er]
  refine ⟨rfl, ?_, ?_, ?_⟩
  · intro x hx
    simp only [List.mem_cons, List.not_mem_nil, or_false] at hx
    rcases hx with rfl | rfl | rfl | rfl | rfl | rfl | rfl | rfl | rfl | rfl
    all_goals first | omega | exact hb _ (by simp)
  · have a1 : baseL [k0, k1, k2, k3, k4, k5, k6, 32 * (k7 / 32) + (m : Int) / 65536, (m : Int) / 256 % 256, (m : Int) % 256] = [k0, k1, k2, k3, k4, k5, k6, Go.bits .and .u8 (32 * (k7 / 32) + (m : Int) / 65536) 224, 0, 0] := rfl
    have a2 : baseL [k0, k1, k2, k3, k4, k5, k6, k7, k8, k9] = [k0, k1, k2, k3, k4, k5, k6, Go.bits .and .u8 k7 224, 0, 0] := rfl
    rw [a1, a2, e7, e7', show (32 * (k7 / 32) + (m : Int) / 65536) / 32 = k7 / 32 by omega]
  · show ((32 * (k7 / 32) + (m : Int) / 65536) % 32 * 65536 + (m : Int) / 256 % 256 * 256 + (m : Int) % 256).toNat = m
    omega
theorem rL_self (ksn : List Int) (h : ksn.length = 10) (hb : Bytes ksn) : rL ksn (cntN ksn : Int) = ksn.drop 2 := by
  obtain ⟨k0, k1, k2, k3, k4, k5, k6, k7, k8, k9, rfl⟩ := ten ksn h
  have b7 := hb k7 (by simp)
  have b8 := hb k8 (by simp)
  have b9 := hb k9 (by simp)
  have hN : (cntN [k0, k1, k2, k3, k4, k5, k6, k7, k8, k9] : Int) = k7 % 32 * 65536 + k8 * 256 + k9 := by
    show ((k7 % 32 * 65536 + k8 * 256 + k9).toNat : Int) = _
    omega
  rw [hN]
  have e7 := (and224 k7 b7).1
  have h1 : (k7 % 32 * 65536 + k8 * 256 + k9) / 65536 % 256 = k7 % 32 := by omega
  have h2 : (k7 % 32 * 65536 + k8 * 256 + k9) / 256 % 256 = k8 := by omega
  have h3 : (k7 % 32 * 65536 + k8 * 256 + k9) % 256 = k9 := by omega
  have eo := or_low5 (k7 / 32) (k7 % 32) (by omega) (by omega)
  have : rL [k0, k1, k2, k3, k4, k5, k6, k7, k8, k9] (k7 % 32 * 65536 + k8 * 256 + k9) = [k2, k3, k4, k5, k6, Go.bits .or .u8 (Go.bits .and .u8 k7 224) ((k7 % 32 * 65536 + k8 * 256 + k9) / 65536 % 256), (k7 % 32 * 65536 + k8 * 256 + k9) / 256 % 256, (k7 % 32 * 65536 + k8 * 256 + k9) % 256] := rfl
  rw [this, e7, h1, h2, h3, eo, show 32 * (k7 / 32) + k7 % 32 = k7 by omega]
  rfl
end LDuk
end Go.Proofs.YtbjlpdfhjapbkaaDoor
