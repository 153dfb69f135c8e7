/- What the printed leaves of DES compute, in the plain words: picks, bits, tables. Conditions: lists of bits, tables within them, rounds enough. · What the printed l1Unbits computes: bytes of bits. Conditions: bits, eight to a byte, rounds enough. -/
import Derived.Test.YtbjlpdfhjapbkaaDoorFound
import Derived.Test.YtbjlpdfhjapbkaaDoorBB
namespace Go.Proofs.YtbjlpdfhjapbkaaDoor.B
open Go.RowKit Go.Proofs.YtbjlpdfhjapbkaaDoorW.PrintWords Go.Proofs.YtbjlpdfhjapbkaaDoorW.PrintLast Go.Proofs.YtbjlpdfhjapbkaaDoorW.PrintMore
open Go.Proofs.YtbjlpdfhjapbkaaDoor Go.Proofs.YtbjlpdfhjapbkaaDoor.D
set_option linter.unusedVariables false

theorem wrap64_in {z : Int} (h : -9223372036854775808 ≤ z ∧ z ≤ 9223372036854775807) : wrap64 z = z := by unfold wrap64; omega
theorem pickB_step (bs t : List Int) (i : Nat) (h : i < t.length) : pickB bs (t.take (i + 1)) = pickB bs (t.take i) ++ [nth bs ((nth t i).toNat - 1)] := by
  rw [List.take_succ_eq_append_getElem h, nth_at t i h]
  simp only [pickB, List.map_append, List.map_cons, List.map_nil]
/-- A table of places of n bits. -/
def Within (t : List Int) (n : Nat) : Prop := ∀ i, i < t.length → 1 ≤ nth t i ∧ nth t i ≤ n

theorem impl_pick_loop (bs t : List Int) (hb : Bits bs) (h64 : bs.length ≤ 64) (ht : t.length ≤ 64) (hw : Within t bs.length) (d : Nat) : ∀ (k i : Nat), i ≤ t.length → t.length - i = d → d < k →
    impl_pick_byte.l0 k (num bs) (bs.length : Int) (num (pickB bs (t.take i))) t (t.length : Int) (i : Int) = some (num (pickB bs t)) := by
  induction d with
  | zero =>
    intro k i hi hd hk
    obtain ⟨k, rfl⟩ : ∃ m, k = m + 1 := ⟨k - 1, by omega⟩
    rw [impl_pick_byte.l0, if_neg (by omega), List.take_of_length_le (by omega)]
  | succ d ih =>
    intro k i hi hd hk
    obtain ⟨k, rfl⟩ : ∃ m, k = m + 1 := ⟨k - 1, by omega⟩
    have hlt : i < t.length := by omega
    obtain ⟨w1, w2⟩ := hw i hlt
    have e0 : wrap64 (rd t (i : Int)) = nth t i := by rw [rd_nth]; exact wrap64_in (by omega)
    have e1 : wrap64 ((bs.length : Int) - nth t i) = (bs.length : Int) - nth t i := wrap64_in (by omega)
    have hv := num_bound bs hb
    have hp : (2 : Int) ^ bs.length ≤ 2 ^ 64 := by exact_mod_cast Nat.pow_le_pow_right (by decide) h64
    have hq : Go.bits .and .u64 (shr .u64 (num bs) ((bs.length : Int) - nth t i)) 1 = nth bs ((nth t i).toNat - 1) := by
      have hs : shr .u64 (num bs) ((bs.length : Int) - nth t i) = num bs / 2 ^ (bs.length - 1 - ((nth t i).toNat - 1)) := by
        unfold shr
        rw [show min ((bs.length : Int) - nth t i).toNat (IntKind.bits .u64) = bs.length - 1 - ((nth t i).toNat - 1) by
          have : IntKind.bits .u64 = 64 := rfl
          omega]
      rw [hs, and1 _ (Int.ediv_nonneg hv.1 (Int.le_of_lt (pow_pos2 _))) (by have := Int.ediv_le_self (2 ^ (bs.length - 1 - ((nth t i).toNat - 1))) hv.1; omega), num_bit bs hb _ (by omega)]
    have hpb := pickB_bits hb (t.take i)
    have hx := num_bound _ hpb
    have hxl : (pickB bs (t.take i)).length ≤ 63 := by rw [pickB_length, List.length_take]; omega
    have hp2 : (2 : Int) ^ (pickB bs (t.take i)).length ≤ 2 ^ 63 := by exact_mod_cast Nat.pow_le_pow_right (by decide) hxl
    have hwr : IntKind.u64.wrap (num (pickB bs (t.take i)) * 2) = num (pickB bs (t.take i)) * 2 := by rw [IntKind.wrap_u64]; omega
    have hn := ih k (i + 1) (by omega) (by omega) (by omega)
    rw [impl_pick_byte.l0, if_pos (by omega), if_pos (by omega), if_pos (by omega), e0, e1, if_pos (by omega), hq, hwr, or1 _ _ hx.1 (by omega) (hb.nth _), ← num_snoc, ← pickB_step bs t i hlt, wrap64_succ (by omega)]
    exact hn
theorem impl_pick_eq (bs t : List Int) (hb : Bits bs) (h64 : bs.length ≤ 64) (ht : t.length ≤ 64) (hw : Within t bs.length) (k : Nat) (hk : t.length < k) :
    impl_pick_byte.f k (num bs) (bs.length : Int) t = some (num (pickB bs t)) := by
  unfold impl_pick_byte.f
  exact impl_pick_loop bs t hb h64 ht hw t.length k 0 (by omega) (by omega) hk

theorem spec_pick_loop (bs t : List Int) (h64 : bs.length ≤ 1024) (ht : t.length ≤ 64) (hw : Within t bs.length) (d : Nat) : ∀ (k i : Nat), i ≤ t.length → t.length - i = d → d < k →
    spec_l1Pick.l0 k bs (pickB bs (t.take i)) t (t.length : Int) (i : Int) = some (pickB bs t) := by
  induction d with
  | zero =>
    intro k i hi hd hk
    obtain ⟨k, rfl⟩ : ∃ m, k = m + 1 := ⟨k - 1, by omega⟩
    rw [spec_l1Pick.l0, if_neg (by omega), List.take_of_length_le (by omega)]
  | succ d ih =>
    intro k i hi hd hk
    obtain ⟨k, rfl⟩ : ∃ m, k = m + 1 := ⟨k - 1, by omega⟩
    have hlt : i < t.length := by omega
    obtain ⟨w1, w2⟩ := hw i hlt
    have e0 : wrap64 (rd t (i : Int) - 1) = (((nth t i).toNat - 1 : Nat) : Int) := by rw [rd_nth, wrap64_in (by omega)]; omega
    have hn := ih k (i + 1) (by omega) (by omega) (by omega)
    have hl : (pickB bs (t.take i)).length < 140737488355328 := by rw [pickB_length, List.length_take]; omega
    rw [spec_l1Pick.l0, if_pos (by omega), if_pos (by omega), if_pos (by omega), e0, if_pos (by omega), if_pos (by omega), if_pos hl, rd_nth, ← pickB_step bs t i hlt, wrap64_succ (by omega)]
    exact hn
theorem spec_pick_eq (bs t : List Int) (h64 : bs.length ≤ 1024) (ht : t.length ≤ 64) (hw : Within t bs.length) (k : Nat) (hk : t.length < k) :
    spec_l1Pick.f k bs t = some (pickB bs t) := by
  unfold spec_l1Pick.f
  exact spec_pick_loop bs t h64 ht hw t.length k 0 (by omega) (by omega) hk

/-! bits of bytes -/
theorem byte_bit : ∀ n : Fin 256, (Go.bits .and .u8 (shr .u8 (n.val : Int) (IntKind.u64.wrap 7)) 1 = (n.val : Int) / 128 % 2 ∧ Go.bits .and .u8 (shr .u8 (n.val : Int) (IntKind.u64.wrap 6)) 1 = (n.val : Int) / 64 % 2 ∧
    Go.bits .and .u8 (shr .u8 (n.val : Int) (IntKind.u64.wrap 5)) 1 = (n.val : Int) / 32 % 2 ∧ Go.bits .and .u8 (shr .u8 (n.val : Int) (IntKind.u64.wrap 4)) 1 = (n.val : Int) / 16 % 2 ∧
    Go.bits .and .u8 (shr .u8 (n.val : Int) (IntKind.u64.wrap 3)) 1 = (n.val : Int) / 8 % 2 ∧ Go.bits .and .u8 (shr .u8 (n.val : Int) (IntKind.u64.wrap 2)) 1 = (n.val : Int) / 4 % 2 ∧
    Go.bits .and .u8 (shr .u8 (n.val : Int) (IntKind.u64.wrap 1)) 1 = (n.val : Int) / 2 % 2 ∧ Go.bits .and .u8 (shr .u8 (n.val : Int) (IntKind.u64.wrap 0)) 1 = (n.val : Int) % 2) := by decide +kernel
theorem fin_of {b : Int} (h : 0 ≤ b ∧ b ≤ 255) : ∃ n : Fin 256, b = (n.val : Int) := ⟨⟨b.toNat, by omega⟩, by simp; omega⟩
theorem l1Bits_byte (k : Nat) (x3 : List Int) (b : Int) (hb : 0 ≤ b ∧ b ≤ 255) (x7 : List Int) (x8 x9 : Int) (hl : x3.length ≤ 1048576) :
    spec_l1Bits.l1 (k + 9) x3 b 7 x7 x8 x9 = spec_l1Bits.l0 k (x3 ++ bits8 b) x7 x8 (wrap64 (x9 + 1)) := by
  obtain ⟨n, rfl⟩ := fin_of hb
  obtain ⟨b7, b6, b5, b4, b3, b2, b1, b0⟩ := byte_bit n
  rw [spec_l1Bits.l1, if_pos (by decide), if_pos (by decide), if_pos (by omega), b7, show wrap64 (7 - 1) = 6 from by decide +kernel]
  rw [spec_l1Bits.l1, if_pos (by decide), if_pos (by decide), if_pos (by simp; omega), b6, show wrap64 (6 - 1) = 5 from by decide +kernel]
  rw [spec_l1Bits.l1, if_pos (by decide), if_pos (by decide), if_pos (by simp; omega), b5, show wrap64 (5 - 1) = 4 from by decide +kernel]
  rw [spec_l1Bits.l1, if_pos (by decide), if_pos (by decide), if_pos (by simp; omega), b4, show wrap64 (4 - 1) = 3 from by decide +kernel]
  rw [spec_l1Bits.l1, if_pos (by decide), if_pos (by decide), if_pos (by simp; omega), b3, show wrap64 (3 - 1) = 2 from by decide +kernel]
  rw [spec_l1Bits.l1, if_pos (by decide), if_pos (by decide), if_pos (by simp; omega), b2, show wrap64 (2 - 1) = 1 from by decide +kernel]
  rw [spec_l1Bits.l1, if_pos (by decide), if_pos (by decide), if_pos (by simp; omega), b1, show wrap64 (1 - 1) = 0 from by decide +kernel]
  rw [spec_l1Bits.l1, if_pos (by decide), if_pos (by decide), if_pos (by simp; omega), b0, show wrap64 (0 - 1) = -1 from by decide +kernel]
  rw [spec_l1Bits.l1, if_neg (by decide)]
  simp only [bits8, List.append_assoc, List.cons_append, List.nil_append]
theorem bitsOf_step (l : List Int) (i : Nat) (h : i < l.length) : bitsOf (l.take (i + 1)) = bitsOf (l.take i) ++ bits8 (nth l i) := by
  rw [List.take_succ_eq_append_getElem h, bitsOf_append, nth_at l i h]
  simp [bitsOf]
theorem spec_bits_loop (l : List Int) (hl : l.length ≤ 4096) (hb : Bytes l) (d : Nat) : ∀ (k i : Nat), i ≤ l.length → l.length - i = d → 10 * d < k →
    spec_l1Bits.l0 k (bitsOf (l.take i)) l (l.length : Int) (i : Int) = some (bitsOf l) := by
  induction d with
  | zero =>
    intro k i hi hd hk
    obtain ⟨k, rfl⟩ : ∃ m, k = m + 1 := ⟨k - 1, by omega⟩
    rw [spec_l1Bits.l0, if_neg (by omega), List.take_of_length_le (by omega)]
  | succ d ih =>
    intro k i hi hd hk
    obtain ⟨k, rfl⟩ : ∃ m, k = m + 9 + 1 := ⟨k - 10, by omega⟩
    have hlt : i < l.length := by omega
    have hn := ih k (i + 1) (by omega) (by omega) (by omega)
    have hlen : (bitsOf (l.take i)).length ≤ 1048576 := by rw [bitsOf_length, List.length_take]; omega
    rw [spec_l1Bits.l0, if_pos (by omega), if_pos (by omega), if_pos (by omega), rd_nth, l1Bits_byte k _ _ (hb.nth i) _ _ _ hlen, ← bitsOf_step l i hlt, wrap64_succ (by omega)]
    exact hn
theorem spec_bits_eq (l : List Int) (hl : l.length ≤ 4096) (hb : Bytes l) (k : Nat) (hk : 10 * l.length < k) : spec_l1Bits.f k l = some (bitsOf l) := by
  unfold spec_l1Bits.f
  exact spec_bits_loop l hl hb l.length k 0 (by omega) (by omega) hk

/-! XOR of lists -/
def xorL (a b : List Int) : List Int := List.zipWith (fun x y => Go.bits .xor .u8 x y) a b
theorem xorL_bits {a b : List Int} (ha : Bits a) (hb : Bits b) : xorL a b = xorB a b := by
  unfold xorL xorB
  apply List.ext_getElem
  · simp
  · intro i h1 h2
    simp only [List.getElem_zipWith]
    have h3 : i < a.length ∧ i < b.length := by simpa [Nat.lt_min] using h1
    exact xor_u8_bit (ha _ (List.getElem_mem h3.1)) (hb _ (List.getElem_mem h3.2))
theorem xorL_length (a b : List Int) (h : a.length ≤ b.length) : (xorL a b).length = a.length := by simp [xorL]; omega
theorem spec_xor_loop (a b : List Int) (hab : a.length ≤ b.length) (hl : a.length ≤ 1048576) (d : Nat) : ∀ (k i : Nat) (x5 : List Int), x5.length = a.length → i ≤ a.length → a.length - i = d → d < k →
    spec_l1Xor.l0 k a b x5 (a.length : Int) (i : Int) = some (x5.take i ++ (xorL a b).drop i) := by
  induction d with
  | zero =>
    intro k i x5 h5 hi hd hk
    obtain ⟨k, rfl⟩ : ∃ m, k = m + 1 := ⟨k - 1, by omega⟩
    rw [spec_l1Xor.l0, if_neg (by omega), List.take_of_length_le (by omega), List.drop_of_length_le (by rw [xorL_length a b hab]; omega), List.append_nil]
  | succ d ih =>
    intro k i x5 h5 hi hd hk
    obtain ⟨k, rfl⟩ : ∃ m, k = m + 1 := ⟨k - 1, by omega⟩
    have hlt : i < a.length := by omega
    have hlb : i < b.length := by omega
    have hx : i < (xorL a b).length := by rw [xorL_length a b hab]; exact hlt
    have hn := ih k (i + 1) (x5.set i (Go.bits .xor .u8 (nth a i) (nth b i))) (by simpa using h5) (by omega) (by omega) (by omega)
    rw [spec_l1Xor.l0, if_pos (by omega), if_pos (by omega), if_pos (by omega), if_pos (by omega), if_pos (by omega), rd_nth, rd_nth, Int.toNat_natCast, wrap64_succ (by omega), hn]
    congr 1
    rw [take_set_succ _ _ _ (by omega), List.append_assoc, List.singleton_append, ← List.getElem_cons_drop hx]
    congr 2
    simp [xorL, nth_at a i hlt, nth_at b i hlb]
theorem spec_xor_eq (a b : List Int) (hab : a.length ≤ b.length) (hl : a.length ≤ 1048576) (k : Nat) (hk : a.length < k) : spec_l1Xor.f k a b = some (xorL a b) := by
  unfold spec_l1Xor.f
  rw [if_pos (by omega), if_pos (by omega)]
  have := spec_xor_loop a b hab hl a.length k 0 (List.replicate ((a.length : Int)).toNat 0) (by simp) (by omega) (by omega) hk
  simpa using this

/-! tables -/
theorem spec_ip_eq : spec_l1IP.f 100 = some tIP := by decide +kernel
theorem spec_e_eq : spec_l1E.f 100 = some tE := by decide +kernel
theorem inverse_eq : impl_inverse.f 100 tIP = some tINV := by decide +kernel
theorem within_ip : Within tIP 64 := by unfold Within; decide +kernel
theorem within_inv : Within tINV 64 := by unfold Within; decide +kernel
theorem within_e : Within tE 32 := by unfold Within; decide +kernel
theorem within_p : Within tP 32 := by unfold Within; decide +kernel
theorem within_pc1 : Within tPC1 64 := by unfold Within; decide +kernel
theorem within_pc2 : Within tPC2 56 := by unfold Within; decide +kernel
end Go.Proofs.YtbjlpdfhjapbkaaDoor.B

namespace Go.Proofs.YtbjlpdfhjapbkaaDoor.B
open Go.RowKit Go.Proofs.YtbjlpdfhjapbkaaDoorW.PrintWords Go.Proofs.YtbjlpdfhjapbkaaDoorW.PrintLast Go.Proofs.YtbjlpdfhjapbkaaDoorW.PrintMore
open Go.Proofs.YtbjlpdfhjapbkaaDoor Go.Proofs.YtbjlpdfhjapbkaaDoor.D
set_option linter.unusedVariables false

theorem or_step : ∀ v : Fin 128, Go.bits .or .u8 (((v.val : Int) * 2) % 256) 0 = 2 * (v.val : Int) ∧ Go.bits .or .u8 (((v.val : Int) * 2) % 256) 1 = 2 * (v.val : Int) + 1 := by decide +kernel
theorem or_bit {v x : Int} (h0 : 0 ≤ v) (h1 : v < 128) (hx : x = 0 ∨ x = 1) : Go.bits .or .u8 ((v * 2) % 256) x = 2 * v + x := by
  have h := or_step ⟨v.toNat, by omega⟩
  simp only [show ((v.toNat : Nat) : Int) = v by omega] at h
  rcases hx with rfl | rfl
  · rw [h.1]; omega
  · exact h.2
theorem nth_mid (pre : List Int) (v : Int) (rest : List Int) : nth (pre ++ v :: rest) pre.length = v := by simp [nth]
theorem set_mid (pre : List Int) (v w : Int) (rest : List Int) : (pre ++ v :: rest).set pre.length w = pre ++ w :: rest := by simp
theorem unbits_step (k : Nat) (pre rest bs : List Int) (v : Int) (j : Nat) (hj : j < 8) (hi : 8 * pre.length + j < bs.length) (hl : bs.length ≤ 8192) (hb : Bits bs) (h0 : 0 ≤ v) (h1 : v < 128) :
    spec_l1Unbits.l0 (k + 1) (pre ++ v :: rest) bs (bs.length : Int) ((8 * pre.length + j : Nat) : Int) = spec_l1Unbits.l0 k (pre ++ (2 * v + nth bs (8 * pre.length + j)) :: rest) bs (bs.length : Int) ((8 * pre.length + j + 1 : Nat) : Int) := by
  have e : wrap64 (Int.tdiv ((8 * pre.length + j : Nat) : Int) 8) = (pre.length : Int) := by
    rw [Int.tdiv_eq_ediv_of_nonneg (by omega), wrap64_in (by omega)]
    omega
  have hlen : (pre.length : Int) < ((pre ++ v :: rest).length : Int) := by simp; omega
  rw [spec_l1Unbits.l0, if_pos (by omega), if_pos (by omega), if_pos (by omega), e, if_pos (by omega), if_pos hlen, Int.toNat_natCast, rd_nth, rd_nth, nth_mid, set_mid, or_bit h0 h1 (hb.nth _), wrap64_succ (by omega)]
theorem unbits_append (n : Nat) : ∀ (a b : List Int), a.length = 8 * n → unbits (a ++ b) = unbits a ++ unbits b := by
  induction n with
  | zero =>
    intro a b ha
    obtain rfl := List.eq_nil_of_length_eq_zero (by omega : a.length = 0)
    rfl
  | succ n ih =>
    intro a b ha
    obtain ⟨x0, x1, x2, x3, x4, x5, x6, x7, t, rfl⟩ := list8 (l := a) (by omega)
    simp only [List.cons_append, unbits]
    rw [ih t b (by simp at ha; omega)]
theorem nth_drop (l : List Int) (i j : Nat) : nth (l.drop i) j = nth l (i + j) := by simp [nth, List.getD_eq_getElem?_getD, List.getElem?_drop]
theorem nth_zero (x : Int) (t : List Int) : nth (x :: t) 0 = x := rfl
theorem nth_succ (x : Int) (t : List Int) (j : Nat) : nth (x :: t) (j + 1) = nth t j := by simp [nth]
theorem unbits_byte (k : Nat) (pre rest bs : List Int) (hi : 8 * pre.length + 8 ≤ bs.length) (hl : bs.length ≤ 8192) (hb : Bits bs) :
    spec_l1Unbits.l0 (k + 8) (pre ++ 0 :: rest) bs (bs.length : Int) ((8 * pre.length : Nat) : Int) = spec_l1Unbits.l0 k (pre ++ num ((bs.drop (8 * pre.length)).take 8) :: rest) bs (bs.length : Int) ((8 * pre.length + 8 : Nat) : Int) := by
  obtain ⟨x0, x1, x2, x3, x4, x5, x6, x7, t, ht⟩ := list8 (l := bs.drop (8 * pre.length)) (by rw [List.length_drop]; omega)
  have hbt : Bits (bs.drop (8 * pre.length)) := hb.drop _
  have b : ∀ j, nth bs (8 * pre.length + j) = nth (x0 :: x1 :: x2 :: x3 :: x4 :: x5 :: x6 :: x7 :: t) j := fun j => by rw [← ht, nth_drop]
  rw [ht] at hbt
  have z : ∀ x ∈ (x0 :: x1 :: x2 :: x3 :: x4 :: x5 :: x6 :: x7 :: t), 0 ≤ x ∧ x ≤ 1 := fun x hx => by rcases hbt x hx with h | h <;> omega
  obtain ⟨z0, z1, z2, z3, z4, z5, z6, z7⟩ : (0 ≤ x0 ∧ x0 ≤ 1) ∧ (0 ≤ x1 ∧ x1 ≤ 1) ∧ (0 ≤ x2 ∧ x2 ≤ 1) ∧ (0 ≤ x3 ∧ x3 ≤ 1) ∧ (0 ≤ x4 ∧ x4 ≤ 1) ∧ (0 ≤ x5 ∧ x5 ≤ 1) ∧ (0 ≤ x6 ∧ x6 ≤ 1) ∧ (0 ≤ x7 ∧ x7 ≤ 1) :=
    ⟨z _ (by simp), z _ (by simp), z _ (by simp), z _ (by simp), z _ (by simp), z _ (by simp), z _ (by simp), z _ (by simp)⟩
  clear z
  have s0 := unbits_step (k + 7) pre rest bs 0 0 (by omega) (by omega) hl hb (by omega) (by omega)
  rw [b 0, nth_zero] at s0
  have s1 := unbits_step (k + 6) pre rest bs (2 * 0 + x0) 1 (by omega) (by omega) hl hb (by omega) (by omega)
  rw [b 1, nth_succ, nth_zero] at s1
  have s2 := unbits_step (k + 5) pre rest bs (2 * (2 * 0 + x0) + x1) 2 (by omega) (by omega) hl hb (by omega) (by omega)
  rw [b 2, nth_succ, nth_succ, nth_zero] at s2
  have s3 := unbits_step (k + 4) pre rest bs (2 * (2 * (2 * 0 + x0) + x1) + x2) 3 (by omega) (by omega) hl hb (by omega) (by omega)
  rw [b 3, nth_succ, nth_succ, nth_succ, nth_zero] at s3
  have s4 := unbits_step (k + 3) pre rest bs (2 * (2 * (2 * (2 * 0 + x0) + x1) + x2) + x3) 4 (by omega) (by omega) hl hb (by omega) (by omega)
  rw [b 4, nth_succ, nth_succ, nth_succ, nth_succ, nth_zero] at s4
  have s5 := unbits_step (k + 2) pre rest bs (2 * (2 * (2 * (2 * (2 * 0 + x0) + x1) + x2) + x3) + x4) 5 (by omega) (by omega) hl hb (by omega) (by omega)
  rw [b 5, nth_succ, nth_succ, nth_succ, nth_succ, nth_succ, nth_zero] at s5
  have s6 := unbits_step (k + 1) pre rest bs (2 * (2 * (2 * (2 * (2 * (2 * 0 + x0) + x1) + x2) + x3) + x4) + x5) 6 (by omega) (by omega) hl hb (by omega) (by omega)
  rw [b 6, nth_succ, nth_succ, nth_succ, nth_succ, nth_succ, nth_succ, nth_zero] at s6
  have s7 := unbits_step k pre rest bs (2 * (2 * (2 * (2 * (2 * (2 * (2 * 0 + x0) + x1) + x2) + x3) + x4) + x5) + x6) 7 (by omega) (by omega) hl hb (by omega) (by omega)
  rw [b 7, nth_succ, nth_succ, nth_succ, nth_succ, nth_succ, nth_succ, nth_succ, nth_zero] at s7
  have e : num ((bs.drop (8 * pre.length)).take 8) = 2 * (2 * (2 * (2 * (2 * (2 * (2 * (2 * 0 + x0) + x1) + x2) + x3) + x4) + x5) + x6) + x7 := by rw [ht]; rfl
  rw [e]
  exact s0.trans (s1.trans (s2.trans (s3.trans (s4.trans (s5.trans (s6.trans s7))))))
theorem unbits_loop (bs : List Int) (n : Nat) (hn : bs.length = 8 * n) (hl : bs.length ≤ 8192) (hb : Bits bs) (d : Nat) : ∀ (k q : Nat), q ≤ n → n - q = d → 8 * d < k →
    spec_l1Unbits.l0 k (unbits (bs.take (8 * q)) ++ List.replicate (n - q) 0) bs (bs.length : Int) ((8 * q : Nat) : Int) = some (unbits bs) := by
  induction d with
  | zero =>
    intro k q hq hd hk
    obtain ⟨k, rfl⟩ : ∃ m, k = m + 1 := ⟨k - 1, by omega⟩
    rw [spec_l1Unbits.l0, if_neg (by omega), hd, List.take_of_length_le (by omega)]
    simp
  | succ d ih =>
    intro k q hq hd hk
    obtain ⟨k, rfl⟩ : ∃ m, k = m + 8 := ⟨k - 8, by omega⟩
    have hpl : (unbits (bs.take (8 * q))).length = q := unbits_length q _ (by rw [List.length_take]; omega)
    have hs := unbits_byte k (unbits (bs.take (8 * q))) (List.replicate d 0) bs (by rw [hpl]; omega) hl hb
    rw [hpl] at hs
    rw [hd, List.replicate_succ, hs]
    have hn' := ih k (q + 1) (by omega) (by omega) (by omega)
    have e : unbits (bs.take (8 * (q + 1))) = unbits (bs.take (8 * q)) ++ [num ((bs.drop (8 * q)).take 8)] := by
      have h1 : bs.take (8 * (q + 1)) = bs.take (8 * q) ++ (bs.drop (8 * q)).take 8 := by
        rw [show 8 * (q + 1) = 8 * q + 8 by omega, List.take_add]
      rw [h1, unbits_append q _ _ (by rw [List.length_take]; omega)]
      obtain ⟨x0, x1, x2, x3, x4, x5, x6, x7, t, ht⟩ := list8 (l := bs.drop (8 * q)) (by rw [List.length_drop]; omega)
      rw [ht]
      rfl
    rw [e, show n - (q + 1) = d by omega, List.append_assoc, List.singleton_append] at hn'
    exact hn'
theorem spec_unbits_eq (bs : List Int) (n : Nat) (hn : bs.length = 8 * n) (hl : bs.length ≤ 8192) (hb : Bits bs) (k : Nat) (hk : bs.length < k) : spec_l1Unbits.f k bs = some (unbits bs) := by
  unfold spec_l1Unbits.f
  have e : wrap64 ((bs.length : Int) / 8) = (n : Int) := by rw [wrap64_in (by omega)]; omega
  rw [e, if_pos (by omega), if_pos (by omega), Int.toNat_natCast]
  have := unbits_loop bs n hn hl hb n k 0 (by omega) (by omega) (by omega)
  simpa [unbits] using this
end Go.Proofs.YtbjlpdfhjapbkaaDoor.B
