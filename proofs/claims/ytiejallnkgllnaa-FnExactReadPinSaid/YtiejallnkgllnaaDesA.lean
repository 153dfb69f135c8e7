/- Bits as lists and as numbers: plain lemmas on lists of whole numbers, with the model's bit operations on 64 bits. -/
import Derived.WalkKit
import Derived.Laws.BitsLemmas
import Derived.Laws.BitsAllLaws
import Derived.Test.YtiejallnkgllnaaHW
namespace Go.Proofs.Ytiejallnkgllnaa.D
open Go.Proofs.Ytiejallnkgllnaa
set_option linter.unusedVariables false

def Bits (l : List Int) : Prop := ∀ x ∈ l, x = 0 ∨ x = 1
def Bytes (l : List Int) : Prop := ∀ x ∈ l, 0 ≤ x ∧ x ≤ 255
/-- The number that bits make, the first the highest. -/
def num (l : List Int) : Int := l.foldl (fun a b => 2 * a + b) 0

theorem Bits.take {l : List Int} (h : Bits l) (i : Nat) : Bits (l.take i) := fun x hx => h x (List.mem_of_mem_take hx)
theorem Bits.drop {l : List Int} (h : Bits l) (i : Nat) : Bits (l.drop i) := fun x hx => h x (List.mem_of_mem_drop hx)
theorem Bits.append {a b : List Int} (ha : Bits a) (hb : Bits b) : Bits (a ++ b) := fun x hx => (List.mem_append.1 hx).elim (ha x) (hb x)
theorem Bits.nil : Bits [] := fun x hx => by simp at hx
theorem Bytes.take {l : List Int} (h : Bytes l) (i : Nat) : Bytes (l.take i) := fun x hx => h x (List.mem_of_mem_take hx)
theorem Bytes.drop {l : List Int} (h : Bytes l) (i : Nat) : Bytes (l.drop i) := fun x hx => h x (List.mem_of_mem_drop hx)
theorem Bytes.append {a b : List Int} (ha : Bytes a) (hb : Bytes b) : Bytes (a ++ b) := fun x hx => (List.mem_append.1 hx).elim (ha x) (hb x)
theorem Bits.nth {l : List Int} (h : Bits l) (i : Nat) : Go.Proofs.Ytiejallnkgllnaa.nth l i = 0 ∨ Go.Proofs.Ytiejallnkgllnaa.nth l i = 1 := by
  by_cases hi : i < l.length
  · rw [nth_at l i hi]; exact h _ (List.getElem_mem hi)
  · left; simp [Go.Proofs.Ytiejallnkgllnaa.nth, List.getD_eq_getElem?_getD, hi]
theorem Bytes.nth {l : List Int} (h : Bytes l) (i : Nat) : 0 ≤ Go.Proofs.Ytiejallnkgllnaa.nth l i ∧ Go.Proofs.Ytiejallnkgllnaa.nth l i ≤ 255 := by
  by_cases hi : i < l.length
  · rw [nth_at l i hi]; exact h _ (List.getElem_mem hi)
  · have : Go.Proofs.Ytiejallnkgllnaa.nth l i = 0 := by simp [Go.Proofs.Ytiejallnkgllnaa.nth, List.getD_eq_getElem?_getD, hi]
    omega

theorem foldl_num (l : List Int) (a : Int) : l.foldl (fun a b => 2 * a + b) a = a * 2 ^ l.length + num l := by
  induction l generalizing a with
  | nil => simp [num]
  | cons x xs ih =>
    have h1 := ih (2 * a + x)
    have h2 := ih (2 * 0 + x)
    simp only [num, List.foldl_cons, List.length_cons]
    rw [h1, h2, Int.pow_succ]
    generalize (2 : Int) ^ xs.length = p
    have e1 : (2 * a + x) * p = 2 * a * p + x * p := Int.add_mul ..
    have e2 : a * (p * 2) = 2 * a * p := by rw [Int.mul_comm p 2, ← Int.mul_assoc, Int.mul_comm a 2]
    have e3 : (2 * 0 + x) * p = x * p := by simp
    omega
theorem num_append (a b : List Int) : num (a ++ b) = num a * 2 ^ b.length + num b := by
  rw [num, List.foldl_append, foldl_num]
  rfl
theorem num_snoc (l : List Int) (x : Int) : num (l ++ [x]) = 2 * num l + x := by
  rw [num_append]
  simp [num]
  omega
theorem num_bound (l : List Int) (h : Bits l) : 0 ≤ num l ∧ num l < 2 ^ l.length := by
  induction l with
  | nil => simp [num]
  | cons x xs ih =>
    have hx := h x (List.mem_cons_self)
    have ih' := ih (fun y hy => h y (List.mem_cons_of_mem _ hy))
    have e : num (x :: xs) = x * 2 ^ xs.length + num xs := by
      have := num_append [x] xs
      simpa [num] using this
    rw [e, List.length_cons, Int.pow_succ]
    generalize (2 : Int) ^ xs.length = p at ih' ⊢
    rcases hx with rfl | rfl <;> omega
theorem pow_pos2 (n : Nat) : (0 : Int) < 2 ^ n := Int.pow_pos (by decide)
theorem num_split (l : List Int) (i : Nat) (hi : i ≤ l.length) : num l = num (l.take i) * 2 ^ (l.length - i) + num (l.drop i) := by
  have := num_append (l.take i) (l.drop i)
  rwa [List.take_append_drop, List.length_drop] at this
theorem num_div (l : List Int) (h : Bits l) (i : Nat) (hi : i ≤ l.length) : num l / 2 ^ (l.length - i) = num (l.take i) := by
  have hb := num_bound (l.drop i) (h.drop i)
  rw [List.length_drop] at hb
  rw [num_split l i hi, Int.add_comm, Int.add_mul_ediv_right _ _ (Int.ne_of_gt (pow_pos2 _)), Int.ediv_eq_zero_of_lt hb.1 hb.2, Int.zero_add]
theorem num_mod (l : List Int) (h : Bits l) (i : Nat) (hi : i ≤ l.length) : num l % 2 ^ (l.length - i) = num (l.drop i) := by
  have hb := num_bound (l.drop i) (h.drop i)
  rw [List.length_drop] at hb
  rw [num_split l i hi, Int.add_comm, Int.add_mul_emod_self_right]
  exact Int.emod_eq_of_lt hb.1 hb.2
theorem num_bit (l : List Int) (h : Bits l) (i : Nat) (hi : i < l.length) : num l / 2 ^ (l.length - 1 - i) % 2 = nth l i := by
  have h1 := num_div l h (i + 1) (by omega)
  rw [show l.length - 1 - i = l.length - (i + 1) by omega, h1, List.take_succ_eq_append_getElem hi, num_snoc, nth_at l i hi]
  have := h l[i] (List.getElem_mem hi)
  omega

theorem and_mask (x : Int) (i : Nat) (hi : i ≤ 64) (h0 : 0 ≤ x) (h1 : x < 18446744073709551616) : Go.bits .and .u64 x (2 ^ i - 1) = x % 2 ^ i :=
  bits_mask .u64 64 (by decide) (fun n h0 h1 => by rw [IntKind.wrap_u64]; omega) i hi x h0 (by omega)
theorem and1 (x : Int) (h0 : 0 ≤ x) (h1 : x < 18446744073709551616) : Go.bits .and .u64 x 1 = x % 2 := and_mask x 1 (by decide) h0 h1
theorem and15 (x : Int) (h0 : 0 ≤ x) (h1 : x < 18446744073709551616) : Go.bits .and .u64 x 15 = x % 16 := and_mask x 4 (by decide) h0 h1
theorem and63 (x : Int) (h0 : 0 ≤ x) (h1 : x < 18446744073709551616) : Go.bits .and .u64 x 63 = x % 64 := and_mask x 6 (by decide) h0 h1
theorem and28 (x : Int) (h0 : 0 ≤ x) (h1 : x < 18446744073709551616) : Go.bits .and .u64 x 268435455 = x % 268435456 := and_mask x 28 (by decide) h0 h1
theorem and32 (x : Int) (h0 : 0 ≤ x) (h1 : x < 18446744073709551616) : Go.bits .and .u64 x 4294967295 = x % 4294967296 := and_mask x 32 (by decide) h0 h1
theorem or_join (a b : Int) (i : Nat) (hi : i ≤ 64) (ha : 0 ≤ a) (h0 : 0 ≤ b) (h1 : b < 2 ^ i) (h2 : a * 2 ^ i < 18446744073709551616) : Go.bits .or .u64 (a * 2 ^ i) b = a * 2 ^ i + b := by
  have hp := pow_pos2 i
  have hle : (2 : Int) ^ i ≤ 2 ^ 64 := by exact_mod_cast Nat.pow_le_pow_right (by decide) hi
  exact bits_join .u64 64 (by decide) (fun n h0 h1 => by rw [IntKind.wrap_u64]; omega) i (a * 2 ^ i) b (Int.mul_nonneg ha (Int.le_of_lt hp)) (Int.mul_emod_left _ _) (by omega) h0 h1 (by omega)
theorem or1 (a b : Int) (ha : 0 ≤ a) (h2 : a < 9223372036854775808) (hb : b = 0 ∨ b = 1) : Go.bits .or .u64 (a * 2) b = 2 * a + b := by
  have := or_join a b 1 (by decide) ha (by omega) (by omega) (by omega)
  simpa [Int.mul_comm] using this

/-! XOR -/
def xorb (x y : Int) : Int := if x = y then 0 else 1
theorem xor_u8_bit {x y : Int} (hx : x = 0 ∨ x = 1) (hy : y = 0 ∨ y = 1) : Go.bits .xor .u8 x y = xorb x y := by
  rcases hx with rfl | rfl <;> rcases hy with rfl | rfl <;> decide +kernel
theorem xorb_bit (x y : Int) : xorb x y = 0 ∨ xorb x y = 1 := by unfold xorb; split <;> simp
theorem nat_xor_step (a b x y : Nat) (hx : x < 2) (hy : y < 2) : (2 * a + x) ^^^ (2 * b + y) = 2 * (a ^^^ b) + (x ^^^ y) := by
  apply Nat.eq_of_testBit_eq
  intro i
  have hxy : x ^^^ y < 2 := by
    have : x = 0 ∨ x = 1 := by omega
    have : y = 0 ∨ y = 1 := by omega
    rcases ‹x = 0 ∨ x = 1› with rfl | rfl <;> rcases ‹y = 0 ∨ y = 1› with rfl | rfl <;> decide
  cases i with
  | zero =>
    rw [Nat.testBit_xor, Nat.testBit_zero, Nat.testBit_zero, Nat.testBit_zero, show (2 * a + x) % 2 = x by omega, show (2 * b + y) % 2 = y by omega, show (2 * (a ^^^ b) + (x ^^^ y)) % 2 = x ^^^ y by omega]
    have : x = 0 ∨ x = 1 := by omega
    have : y = 0 ∨ y = 1 := by omega
    rcases ‹x = 0 ∨ x = 1› with rfl | rfl <;> rcases ‹y = 0 ∨ y = 1› with rfl | rfl <;> decide
  | succ i =>
    rw [Nat.testBit_xor, Nat.testBit_succ, Nat.testBit_succ, Nat.testBit_succ, show (2 * a + x) / 2 = a by omega, show (2 * b + y) / 2 = b by omega, show (2 * (a ^^^ b) + (x ^^^ y)) / 2 = a ^^^ b by omega, Nat.testBit_xor]
def xorB (a b : List Int) : List Int := List.zipWith xorb a b
theorem xorB_bits (a b : List Int) : Bits (xorB a b) := by
  intro x hx
  unfold xorB at hx
  obtain ⟨i, hi, rfl⟩ := List.mem_iff_getElem.1 hx
  rw [List.getElem_zipWith]
  exact xorb_bit _ _
theorem xorB_length (a b : List Int) (h : a.length = b.length) : (xorB a b).length = a.length := by simp [xorB, h]
theorem num_nat (l : List Int) (h : Bits l) : num l = ((num l).toNat : Int) := (Int.toNat_of_nonneg (num_bound l h).1).symm
theorem nat_xor_num (n : Nat) : ∀ (a b : List Int), a.length = n → b.length = n → Bits a → Bits b → (num a).toNat ^^^ (num b).toNat = (num (xorB a b)).toNat := by
  induction n with
  | zero =>
    intro a b ha hb _ _
    obtain rfl := List.eq_nil_of_length_eq_zero ha
    obtain rfl := List.eq_nil_of_length_eq_zero hb
    rfl
  | succ n ih =>
    intro a b ha hb hA hB
    obtain ⟨a', x, rfl⟩ : ∃ a' x, a = a' ++ [x] := ⟨a.dropLast, a.getLast (by intro h; simp [h] at ha), (List.dropLast_concat_getLast _).symm⟩
    obtain ⟨b', y, rfl⟩ : ∃ b' y, b = b' ++ [y] := ⟨b.dropLast, b.getLast (by intro h; simp [h] at hb), (List.dropLast_concat_getLast _).symm⟩
    have ha' : a'.length = n := by simpa using ha
    have hb' : b'.length = n := by simpa using hb
    have hA' : Bits a' := fun z hz => hA z (List.mem_append_left _ hz)
    have hB' : Bits b' := fun z hz => hB z (List.mem_append_left _ hz)
    have hx := hA x (List.mem_append_right _ (List.mem_cons_self))
    have hy := hB y (List.mem_append_right _ (List.mem_cons_self))
    have e : xorB (a' ++ [x]) (b' ++ [y]) = xorB a' b' ++ [xorb x y] := by
      unfold xorB
      rw [List.zipWith_append (by omega)]
      rfl
    rw [e, num_snoc, num_snoc, num_snoc]
    have h1 := num_bound a' hA'
    have h2 := num_bound b' hB'
    have h3 := num_bound _ (xorB_bits a' b')
    have hi := ih a' b' ha' hb' hA' hB'
    have q1 : (2 * num a' + x).toNat = 2 * (num a').toNat + x.toNat := by rcases hx with rfl | rfl <;> omega
    have q2 : (2 * num b' + y).toNat = 2 * (num b').toNat + y.toNat := by rcases hy with rfl | rfl <;> omega
    have q3 : (2 * num (xorB a' b') + xorb x y).toNat = 2 * (num (xorB a' b')).toNat + (xorb x y).toNat := by rcases xorb_bit x y with h | h <;> rw [h] <;> omega
    rw [q1, q2, q3, nat_xor_step _ _ _ _ (by rcases hx with rfl | rfl <;> decide) (by rcases hy with rfl | rfl <;> decide), hi]
    congr 1
    rcases hx with rfl | rfl <;> rcases hy with rfl | rfl <;> decide
theorem xor_num (a b : List Int) (h : a.length = b.length) (hl : a.length ≤ 64) (ha : Bits a) (hb : Bits b) : Go.bits .xor .u64 (num a) (num b) = num (xorB a b) := by
  have h1 := num_bound a ha
  have h2 := num_bound b hb
  have hp : (2 : Int) ^ a.length ≤ 2 ^ 64 := by exact_mod_cast Nat.pow_le_pow_right (by decide) hl
  rw [← h] at h2
  rw [u64_xor (num a) (num b) h1.1 (by omega) h2.1 (by omega), nat_xor_num a.length a b rfl h.symm ha hb]
  exact (num_nat _ (xorB_bits a b)).symm

/-! picks -/
def pickB (bs t : List Int) : List Int := t.map fun n => nth bs (n.toNat - 1)
theorem pickB_bits {bs : List Int} (h : Bits bs) (t : List Int) : Bits (pickB bs t) := by
  intro x hx
  simp only [pickB, List.mem_map] at hx
  obtain ⟨n, _, rfl⟩ := hx
  exact h.nth _
theorem pickB_length (bs t : List Int) : (pickB bs t).length = t.length := by simp [pickB]

/-! bytes and bits -/
def bits8 (x : Int) : List Int := [x / 128 % 2, x / 64 % 2, x / 32 % 2, x / 16 % 2, x / 8 % 2, x / 4 % 2, x / 2 % 2, x % 2]
theorem bits8_bits (x : Int) : Bits (bits8 x) := by
  intro y hy
  simp only [bits8, List.mem_cons, List.not_mem_nil, or_false] at hy
  rcases hy with rfl | rfl | rfl | rfl | rfl | rfl | rfl | rfl <;> omega
theorem num_bits8 (x : Int) (h : 0 ≤ x ∧ x ≤ 255) : num (bits8 x) = x := by
  simp only [num, bits8, List.foldl_cons, List.foldl_nil]
  omega
def bitsOf (l : List Int) : List Int := l.flatMap bits8
theorem bitsOf_bits (l : List Int) : Bits (bitsOf l) := by
  intro x hx
  simp only [bitsOf, List.mem_flatMap] at hx
  obtain ⟨y, _, hy⟩ := hx
  exact bits8_bits y x hy
theorem bitsOf_length (l : List Int) : (bitsOf l).length = 8 * l.length := by
  induction l with
  | nil => rfl
  | cons x xs ih =>
    have e : bitsOf (x :: xs) = bits8 x ++ bitsOf xs := rfl
    rw [e, List.length_append, ih]
    simp [bits8]
    omega
theorem bitsOf_append (a b : List Int) : bitsOf (a ++ b) = bitsOf a ++ bitsOf b := by simp [bitsOf]
/-- Bits, eight by eight. -/
def unbits : List Int → List Int
  | a :: b :: c :: d :: e :: f :: g :: h :: t => num [a, b, c, d, e, f, g, h] :: unbits t
  | _ => []
theorem unbits_bitsOf (l : List Int) (h : Bytes l) : unbits (bitsOf l) = l := by
  induction l with
  | nil => rfl
  | cons x xs ih =>
    have e : bitsOf (x :: xs) = bits8 x ++ bitsOf xs := rfl
    rw [e]
    simp only [bits8, List.cons_append, List.nil_append, unbits]
    rw [ih (fun y hy => h y (List.mem_cons_of_mem _ hy))]
    congr 1
    exact num_bits8 x (h x (List.mem_cons_self))
theorem bits8_num {a b c d e f g h : Int} (H : Bits [a, b, c, d, e, f, g, h]) : bits8 (num [a, b, c, d, e, f, g, h]) = [a, b, c, d, e, f, g, h] := by
  have hh := H
  simp only [Bits, List.mem_cons, List.not_mem_nil, or_false, forall_eq_or_imp, forall_eq] at hh
  obtain ⟨h0, h1, h2, h3, h4, h5, h6, h7⟩ := hh
  have z : ∀ x : Int, x = 0 ∨ x = 1 → 0 ≤ x ∧ x ≤ 1 := fun x hx => by omega
  replace h0 := z _ h0
  replace h1 := z _ h1
  replace h2 := z _ h2
  replace h3 := z _ h3
  replace h4 := z _ h4
  replace h5 := z _ h5
  replace h6 := z _ h6
  replace h7 := z _ h7
  clear z H
  simp only [num, bits8, List.foldl_cons, List.foldl_nil, List.cons.injEq, and_true]
  refine ⟨?_, ?_, ?_, ?_, ?_, ?_, ?_, ?_⟩ <;> omega
theorem list8 {α : Type} {l : List α} (h : 8 ≤ l.length) : ∃ a b c d e f g i t, l = a :: b :: c :: d :: e :: f :: g :: i :: t := by
  match l, h with
  | a :: b :: c :: d :: e :: f :: g :: i :: t, _ => exact ⟨a, b, c, d, e, f, g, i, t, rfl⟩
theorem bitsOf_unbits (n : Nat) : ∀ (l : List Int), l.length = 8 * n → Bits l → bitsOf (unbits l) = l := by
  induction n with
  | zero =>
    intro l hl _
    obtain rfl := List.eq_nil_of_length_eq_zero (by omega : l.length = 0)
    rfl
  | succ n ih =>
    intro l hl hb
    obtain ⟨a, b, c, d, e, f, g, i, t, rfl⟩ := list8 (l := l) (by omega)
    simp only [unbits]
    have e1 : ∀ x xs, bitsOf (x :: xs) = bits8 x ++ bitsOf xs := fun _ _ => rfl
    rw [e1, ih t (by simp at hl; omega) (fun x hx => hb x (by simp [hx])), bits8_num (fun x hx => hb x (by simp only [List.mem_cons, List.not_mem_nil, or_false] at hx ⊢; omega))]
    rfl
theorem unbits_length (n : Nat) : ∀ (l : List Int), l.length = 8 * n → (unbits l).length = n := by
  induction n with
  | zero =>
    intro l hl
    obtain rfl := List.eq_nil_of_length_eq_zero (by omega : l.length = 0)
    rfl
  | succ n ih =>
    intro l hl
    obtain ⟨a, b, c, d, e, f, g, i, t, rfl⟩ := list8 (l := l) (by omega)
    simp only [unbits, List.length_cons]
    rw [ih t (by simp at hl; omega)]
theorem unbits_bytes (n : Nat) : ∀ (l : List Int), l.length = 8 * n → Bits l → Bytes (unbits l) := by
  induction n with
  | zero =>
    intro l hl _
    obtain rfl := List.eq_nil_of_length_eq_zero (by omega : l.length = 0)
    intro x hx
    simp [unbits] at hx
  | succ n ih =>
    intro l hl hb
    obtain ⟨a, b, c, d, e, f, g, i, t, rfl⟩ := list8 (l := l) (by omega)
    intro x hx
    simp only [unbits, List.mem_cons] at hx
    rcases hx with rfl | hx
    · have := num_bound [a, b, c, d, e, f, g, i] (fun y hy => hb y (by simp only [List.mem_cons, List.not_mem_nil, or_false] at hy ⊢; omega))
      simp at this
      omega
    · exact ih t (by simp at hl; omega) (fun y hy => hb y (by simp [hy])) x hx
theorem num_bitsOf_cons (x : Int) (xs : List Int) (hx : 0 ≤ x ∧ x ≤ 255) : num (bitsOf (x :: xs)) = x * 2 ^ (8 * xs.length) + num (bitsOf xs) := by
  have e : bitsOf (x :: xs) = bits8 x ++ bitsOf xs := rfl
  rw [e, num_append, num_bits8 x hx, bitsOf_length]
theorem num_bitsOf_snoc (xs : List Int) (x : Int) (hx : 0 ≤ x ∧ x ≤ 255) : num (bitsOf (xs ++ [x])) = num (bitsOf xs) * 256 + x := by
  rw [bitsOf_append, num_append]
  have e : bitsOf [x] = bits8 x := by simp [bitsOf]
  rw [e, num_bits8 x hx, show (bits8 x).length = 8 from rfl, show (2 : Int) ^ 8 = 256 from by decide]
end Go.Proofs.Ytiejallnkgllnaa.D
