/- DUKPT's numbers: the counter, its bits from the top, its lowest bit; the block that holds base and counter. Conditions: bytes; counters below 2^21. -/
import Derived.Test.YtbjlpdfhjapbkaaDoorIniP
namespace Go.Proofs.YtbjlpdfhjapbkaaDoor
open Go.RowKit Go.Proofs.YtbjlpdfhjapbkaaDoorW.PrintWords Go.Proofs.YtbjlpdfhjapbkaaDoorW.PrintLast Go.Proofs.YtbjlpdfhjapbkaaDoorW.PrintMore Go.Proofs.YtbjlpdfhjapbkaaDoor.D
set_option linter.unusedVariables false

/-- n with its j lowest bits cleared. -/
def hi (n j : Nat) : Nat := n / 2 ^ j * 2 ^ j
theorem hi_step (n j : Nat) : hi n j = hi n (j + 1) + n / 2 ^ j % 2 * 2 ^ j := by
  unfold hi
  have h1 : n / 2 ^ (j + 1) = n / 2 ^ j / 2 := by rw [Nat.pow_succ, Nat.div_div_eq_div_mul]
  have h2 : 2 ^ (j + 1) = 2 * 2 ^ j := by rw [Nat.pow_succ, Nat.mul_comm]
  rw [h1, h2]
  have h3 := Nat.div_add_mod (n / 2 ^ j) 2
  calc n / 2 ^ j * 2 ^ j = (2 * (n / 2 ^ j / 2) + n / 2 ^ j % 2) * 2 ^ j := by rw [h3]
    _ = n / 2 ^ j / 2 * (2 * 2 ^ j) + n / 2 ^ j % 2 * 2 ^ j := by rw [Nat.add_mul, Nat.mul_comm 2 (n / 2 ^ j / 2), Nat.mul_assoc]
theorem hi_top (n : Nat) (h : n < 2097152) : hi n 21 = 0 := by
  unfold hi
  rw [Nat.div_eq_of_lt (by simpa using h), Nat.zero_mul]
theorem hi_zero (n : Nat) : hi n 0 = n := by simp [hi]
theorem hi_le (n j : Nat) : hi n j ≤ n := Nat.div_mul_le_self n (2 ^ j)
/-- The lowest bit of a number. -/
theorem low_nat (j q : Nat) (h : 2 ^ j * (2 * q + 1) < 2 ^ 64) : 2 ^ j * (2 * q + 1) &&& (2 ^ 64 - 2 ^ j * (2 * q + 1)) = 2 ^ j := by
  have hp : 0 < 2 ^ j := Nat.two_pow_pos j
  obtain ⟨x, hx⟩ : ∃ x, 2 ^ j * (2 * q + 1) = x + 1 := ⟨2 ^ j * (2 * q + 1) - 1, by
    have : 0 < 2 ^ j * (2 * q + 1) := Nat.mul_pos hp (by omega)
    omega⟩
  have hxx : x = 2 ^ j * (2 * q) + (2 ^ j - 1) := by
    have h2 : 2 ^ j * (2 * q + 1) = 2 ^ j * (2 * q) + 2 ^ j := by rw [Nat.mul_add, Nat.mul_one]
    omega
  apply Nat.eq_of_testBit_eq
  intro i
  rw [Nat.testBit_and, hx, Nat.testBit_two_pow_sub_succ (by omega : x < 2 ^ 64), ← hx, hxx, Nat.testBit_two_pow]
  rw [Nat.testBit_two_pow_mul_add _ (by omega : 2 ^ j - 1 < 2 ^ j), Nat.testBit_two_pow_mul]
  by_cases hij : i < j
  · have : ¬ j ≤ i := by omega
    have h' : ¬ j = i := by omega
    simp [this, h', hij]
  · have hji : j ≤ i := by omega
    rw [if_neg hij]
    by_cases he : j = i
    · subst he
      have h64 : j < 64 := by
        rcases Nat.lt_or_ge j 64 with h' | h'
        · exact h'
        · have := Nat.pow_le_pow_right (show 0 < 2 by omega) h'
          have : 2 ^ j ≤ 2 ^ j * (2 * q + 1) := Nat.le_mul_of_pos_right _ (by omega)
          omega
      simp [h64]
    · have hk : i - j = (i - j - 1) + 1 := by omega
      have t1 : (2 * q + 1).testBit (i - j) = q.testBit (i - j - 1) := by rw [hk, Nat.testBit_succ]; congr 1; omega
      have t2 : (2 * q).testBit (i - j) = q.testBit (i - j - 1) := by rw [hk, Nat.testBit_succ]; congr 1; omega
      rw [t1, t2]
      have h' : ¬ j = i := he
      simp [hji, h']
      exact fun a _ => a
theorem low_bits (j q : Nat) (h : 2 ^ j * (2 * q + 1) < 2097152) : Go.bits .and .i64 ((2 ^ j * (2 * q + 1) : Nat) : Int) (wrap64 (-((2 ^ j * (2 * q + 1) : Nat) : Int))) = ((2 ^ j : Nat) : Int) := by
  have hp : 0 < 2 ^ j := Nat.two_pow_pos j
  have hle : 2 ^ j ≤ 2 ^ j * (2 * q + 1) := Nat.le_mul_of_pos_right _ (by omega)
  have hl := low_nat j q (by omega)
  obtain ⟨a, ha⟩ : ∃ a, a = 2 ^ j * (2 * q + 1) := ⟨_, rfl⟩
  rw [← ha] at hl h hle ⊢
  have hw : wrap64 (-(a : Int)) = -(a : Int) := B.wrap64_in (by omega)
  rw [hw]
  have e1 : (BitVec.ofInt 64 (a : Int)).toNat = a := by rw [BitVec.ofInt_natCast, BitVec.toNat_ofNat]; omega
  have e2 : (BitVec.ofInt 64 (-(a : Int))).toNat = 2 ^ 64 - a := by rw [BitVec.toNat_ofInt]; omega
  show IntKind.i64.wrap (((BitVec.ofInt 64 (a : Int)) &&& (BitVec.ofInt 64 (-(a : Int)))).toNat : Int) = _
  rw [BitVec.toNat_and, e1, e2, hl, IntKind.wrap_i64]
  omega
theorem hi_odd (n j : Nat) (h : n / 2 ^ j % 2 = 1) : ∃ q, hi n j = 2 ^ j * (2 * q + 1) := by
  refine ⟨n / 2 ^ j / 2, ?_⟩
  unfold hi
  have := Nat.div_add_mod (n / 2 ^ j) 2
  rw [h] at this
  rw [this, Nat.mul_comm]
theorem and224 (x : Int) (hx : 0 ≤ x ∧ x ≤ 255) : Go.bits .and .u8 x 224 = 32 * (x / 32) ∧ Go.bits .and .u8 x 31 = x % 32 := by
  obtain ⟨⟨n, rfl⟩, h1⟩ : (∃ n : Nat, x = n) ∧ x ≤ 255 := ⟨⟨x.toNat, by omega⟩, hx.2⟩
  exact of_decide_eq_true ((List.all_eq_true.1 (show ((List.range 256).all fun i => decide (Go.bits .and .u8 (i : Int) 224 = 32 * ((i : Int) / 32) ∧ Go.bits .and .u8 (i : Int) 31 = (i : Int) % 32)) = true by decide +kernel)) n (List.mem_range.2 (by omega)))
theorem or_low5 (q t : Int) (hq : 0 ≤ q ∧ q < 8) (ht : 0 ≤ t ∧ t < 32) : Go.bits .or .u8 (32 * q) t = 32 * q + t := by
  obtain ⟨⟨n, rfl⟩, h1⟩ : (∃ n : Nat, q = n) ∧ q < 8 := ⟨⟨q.toNat, by omega⟩, hq.2⟩
  obtain ⟨⟨m, rfl⟩, h2⟩ : (∃ n : Nat, t = n) ∧ t < 32 := ⟨⟨t.toNat, by omega⟩, ht.2⟩
  have h := (List.all_eq_true.1 (show ((List.range 8).all fun i => (List.range 32).all fun j => decide (Go.bits .or .u8 (32 * (i : Int)) (j : Int) = 32 * (i : Int) + (j : Int))) = true by decide +kernel)) n (List.mem_range.2 (by omega))
  exact of_decide_eq_true ((List.all_eq_true.1 h) m (List.mem_range.2 (by omega)))
/-- The serial number's bytes with the counter m put in; what the steps take of them. -/
def putL (ksn : List Int) (m : Int) : List Int := (((baseL ksn).set 7 (Go.bits .or .u8 (nth (baseL ksn) 7) ((m / 65536) % 256))).set 8 ((m / 256) % 256)).set 9 (m % 256)
def rL (ksn : List Int) (m : Int) : List Int := (putL ksn m).drop 2
def highL (ksn : List Int) : Int := ((((nth ksn 2 * 256 + nth ksn 3) * 256 + nth ksn 4) * 256 + nth ksn 5) * 256 + nth ksn 6) * 8 + nth ksn 7 / 32
theorem rL_num (ksn : List Int) (h : ksn.length = 10) (hb : Bytes ksn) (m : Int) (h0 : 0 ≤ m) (h1 : m < 2097152) : (rL ksn m).length = 8 ∧ Bytes (rL ksn m) ∧ num (bitsOf (rL ksn m)) = highL ksn * 2097152 + m ∧ 0 ≤ highL ksn ∧ highL ksn < 8796093022208 := by
  obtain ⟨k0, k1, k2, k3, k4, k5, k6, k7, k8, k9, rfl⟩ := ten ksn h
  have b2 := hb k2 (by simp)
  have b3 := hb k3 (by simp)
  have b4 := hb k4 (by simp)
  have b5 := hb k5 (by simp)
  have b6 := hb k6 (by simp)
  have b7 := hb k7 (by simp)
  have e7 := (and224 k7 b7).1
  have hm : m / 65536 % 256 = m / 65536 := by omega
  have eo := or_low5 (k7 / 32) (m / 65536) (by omega) (by omega)
  have er : rL [k0, k1, k2, k3, k4, k5, k6, k7, k8, k9] m = [k2, k3, k4, k5, k6, 32 * (k7 / 32) + m / 65536, m / 256 % 256, m % 256] := by
    have : rL [k0, k1, k2, k3, k4, k5, k6, k7, k8, k9] m = [k2, k3, k4, k5, k6, Go.bits .or .u8 (Go.bits .and .u8 k7 224) (m / 65536 % 256), m / 256 % 256, m % 256] := rfl
    rw [this, e7, hm, eo]
  have eh : highL [k0, k1, k2, k3, k4, k5, k6, k7, k8, k9] = ((((k2 * 256 + k3) * 256 + k4) * 256 + k5) * 256 + k6) * 8 + k7 / 32 := rfl
  have hby : ∀ x ∈ [k2, k3, k4, k5, k6, 32 * (k7 / 32) + m / 65536, m / 256 % 256, m % 256], 0 ≤ x ∧ x ≤ 255 := by
    intro x hx
    simp only [List.mem_cons, List.not_mem_nil, or_false] at hx
    rcases hx with rfl | rfl | rfl | rfl | rfl | rfl | rfl | rfl <;> omega
  rw [er, eh]
  refine ⟨rfl, hby, ?_, by omega, by omega⟩
  have s : ∀ (xs : List Int) (x : Int), 0 ≤ x ∧ x ≤ 255 → num (bitsOf (xs ++ [x])) = num (bitsOf xs) * 256 + x := num_bitsOf_snoc
  have n0 : num (bitsOf ([] : List Int)) = 0 := rfl
  have t1 := s [] k2 b2
  have t2 := s [k2] k3 b3
  have t3 := s [k2, k3] k4 b4
  have t4 := s [k2, k3, k4] k5 b5
  have t5 := s [k2, k3, k4, k5] k6 b6
  have t6 := s [k2, k3, k4, k5, k6] (32 * (k7 / 32) + m / 65536) (by omega)
  have t7 := s [k2, k3, k4, k5, k6, 32 * (k7 / 32) + m / 65536] (m / 256 % 256) (by omega)
  have t8 := s [k2, k3, k4, k5, k6, 32 * (k7 / 32) + m / 65536, m / 256 % 256] (m % 256) (by omega)
  simp only [List.nil_append, List.cons_append] at t1 t2 t3 t4 t5 t6 t7 t8
  rw [t8, t7, t6, t5, t4, t3, t2, t1, n0]
  omega
/-- 'r |= 1 << j' puts the next bit in. -/
theorem r_or (C : Int) (j m : Nat) (hj : j ≤ 20) (hC : 0 ≤ C) (hC1 : C < 8796093022208) (q : Nat) (hm : m = q * 2 ^ (j + 1)) (hm1 : m < 2097152) : Go.bits .or .u64 (C * 2097152 + (m : Int)) ((2 ^ j : Nat) : Int) = C * 2097152 + ((m + 2 ^ j : Nat) : Int) := by
  have hpow : (2097152 : Int) = 2 ^ (20 - j) * 2 ^ (j + 1) := by rw [← Int.pow_add, show 20 - j + (j + 1) = 21 by omega]; rfl
  have hlt : (2 : Int) ^ j < 2 ^ (j + 1) := by
    have := pow_pos2 j
    rw [Int.pow_succ]
    omega
  have hA : C * 2097152 + (m : Int) = (C * 2 ^ (20 - j) + (q : Int)) * 2 ^ (j + 1) := by
    have e : (m : Int) = (q : Int) * 2 ^ (j + 1) := by rw [hm]; push_cast; rfl
    rw [e, Int.add_mul, Int.mul_assoc, ← hpow]
  have hcast : ((2 ^ j : Nat) : Int) = 2 ^ j := by push_cast; rfl
  rw [hcast, hA]
  have hp := pow_pos2 (20 - j)
  rw [or_join (C * 2 ^ (20 - j) + (q : Int)) (2 ^ j) (j + 1) (by omega) (by have := Int.mul_nonneg hC (Int.le_of_lt hp); omega) (Int.le_of_lt (pow_pos2 j)) hlt (by rw [← hA]; omega), ← hA]
  push_cast
  omega
/-- The counter. -/
def cntN (ksn : List Int) : Nat := (nth ksn 7 % 32 * 65536 + nth ksn 8 * 256 + nth ksn 9).toNat
theorem cnt_eq (ksn : List Int) (h : ksn.length = 10) (hb : Bytes ksn) : cntL ksn = (cntN ksn : Int) ∧ cntI ksn = (cntN ksn : Int) ∧ cntN ksn < 2097152 := by
  obtain ⟨k0, k1, k2, k3, k4, k5, k6, k7, k8, k9, rfl⟩ := ten ksn h
  have b7 := hb k7 (by simp)
  have b8 := hb k8 (by simp)
  have b9 := hb k9 (by simp)
  have e31 := (and224 k7 b7).2
  have n7 : nth [k0, k1, k2, k3, k4, k5, k6, k7, k8, k9] 7 = k7 := rfl
  have n8 : nth [k0, k1, k2, k3, k4, k5, k6, k7, k8, k9] 8 = k8 := rfl
  have n9 : nth [k0, k1, k2, k3, k4, k5, k6, k7, k8, k9] 9 = k9 := rfl
  have hN : (cntN [k0, k1, k2, k3, k4, k5, k6, k7, k8, k9] : Int) = k7 % 32 * 65536 + k8 * 256 + k9 := by unfold cntN; rw [n7, n8, n9]; omega
  have wu : ∀ x : Int, 0 ≤ x → x < 4294967296 → IntKind.u64.wrap x = x := fun x h0 h1 => by rw [IntKind.wrap_u64]; omega
  have wi : ∀ x : Int, 0 ≤ x → x < 4294967296 → wrap64 x = x := fun x h0 h1 => B.wrap64_in (by omega)
  have ki : ∀ n : Int, 0 ≤ n → n < 2 ^ 63 → IntKind.i64.wrap n = n := fun n h0 h1 => by rw [IntKind.wrap_i64]; omega
  have ku : ∀ n : Int, 0 ≤ n → n < 2 ^ 64 → IntKind.u64.wrap n = n := fun n h0 h1 => by rw [IntKind.wrap_u64]; omega
  refine ⟨?_, ?_, by omega⟩
  · unfold cntL
    rw [n7, n8, n9, e31, wu (k7 % 32) (by omega) (by omega), wu (k7 % 32 * 65536) (by omega) (by omega), wu k8 (by omega) (by omega), wu (k8 * 256) (by omega) (by omega), wu k9 (by omega) (by omega),
      bits_join .u64 64 (by decide) ku 16 (k7 % 32 * 65536) (k8 * 256) (by omega) (by omega) (by omega) (by omega) (by omega) (by omega),
      bits_join .u64 64 (by decide) ku 8 (k7 % 32 * 65536 + k8 * 256) k9 (by omega) (by omega) (by omega) (by omega) (by omega) (by omega), hN]
  · unfold cntI
    rw [n7, n8, n9, e31, wi (k7 % 32) (by omega) (by omega), wi (k7 % 32 * 65536) (by omega) (by omega), wi k8 (by omega) (by omega), wi (k8 * 256) (by omega) (by omega), wi k9 (by omega) (by omega),
      bits_join .i64 63 (by decide) ki 16 (k7 % 32 * 65536) (k8 * 256) (by omega) (by omega) (by omega) (by omega) (by omega) (by omega),
      bits_join .i64 63 (by decide) ki 8 (k7 % 32 * 65536 + k8 * 256) k9 (by omega) (by omega) (by omega) (by omega) (by omega) (by omega), hN]
end Go.Proofs.YtbjlpdfhjapbkaaDoor
