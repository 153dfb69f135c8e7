/- Plain facts on PINs: what the printed spec.l4Digits, l4GoodPan, l1Xor, l4Pack answer; packed digits; XOR of packed digits. Conditions: digits below 16, rounds enough. -/
import Derived.Test.YtiejallnkgllnaaLPin2
import Derived.Test.YtiejallnkgllnaaAcc
namespace Go.Proofs.Ytiejallnkgllnaa.LPin
open Go.RowKit Go.Proofs.YtiejallnkgllnaaW.PrintWords Go.Proofs.YtiejallnkgllnaaW.PrintLast Go.Proofs.YtiejallnkgllnaaW.PrintMore Go.Proofs.Ytiejallnkgllnaa.D
open Go.Proofs.Ytiejallnkgllnaa
open Go.Proofs.Ytiejallnkgllnaa.B (xorL xorL_length)
set_option linter.unusedVariables false
theorem w64_succ {n : Nat} (h : n < 9223372036854775807) : wrap64 ((n : Int) + 1) = ((n + 1 : Nat) : Int) := by unfold wrap64; omega
theorem w64_in {z : Int} (h : -9223372036854775808 ≤ z ∧ z ≤ 9223372036854775807) : wrap64 z = z := by unfold wrap64; omega
theorem bt_bI (s : ByteArray) (i : Nat) (h : i < s.size) : bt s (i : Int) = nth (bI s) i := by
  rw [← bI_at s i h]
  simp [bt, h]
theorem digits_loop (s : ByteArray) (hm : s.size ≤ 1000000000) (d : Nat) : ∀ (k i : Nat), i ≤ s.size → s.size - i = d → d < k →
    spec_l4Digits.l0 k s (i : Int) = some ((s.data.toList.drop i).all dgB) := by
  induction d with
  | zero =>
    intro k i hi hd hk
    obtain ⟨k, rfl⟩ : ∃ m, k = m + 1 := ⟨k - 1, by omega⟩
    have hsz : s.data.toList.length = s.size := by simp
    rw [spec_l4Digits.l0, if_neg (by omega), List.drop_of_length_le (by omega)]
    rfl
  | succ d ih =>
    intro k i hi hd hk
    obtain ⟨k, rfl⟩ : ∃ m, k = m + 1 := ⟨k - 1, by omega⟩
    have hlt : i < s.size := by omega
    have hlt' : i < s.data.toList.length := by simpa using hlt
    have e : bt s (i : Int) = ((s.data.toList[i]'hlt').toNat : Int) := by
      rw [bt_bI s i hlt, nth_at _ _ (by rw [bI_length]; exact hlt)]
      simp [bI]
    rw [spec_l4Digits.l0, if_pos (by omega), if_pos (by omega), e, w64_succ (by omega), ih k (i + 1) (by omega) (by omega) (by omega), ← List.getElem_cons_drop hlt', List.all_cons]
    obtain ⟨b, hb⟩ : ∃ b, b = (s.data.toList[i]'hlt') := ⟨_, rfl⟩
    rw [← hb]
    by_cases h1 : (b.toNat : Int) < 48
    · rw [if_pos h1]
      have : dgB b = false := by simp [dgB]; omega
      rw [this]; rfl
    · rw [if_neg h1]
      by_cases h2 : (b.toNat : Int) > 57
      · rw [if_pos h2]
        have : dgB b = false := by simp [dgB]; omega
        rw [this]; rfl
      · rw [if_neg h2]
        have : dgB b = true := by simp [dgB]; omega
        rw [this]; rfl
theorem digits_eq (s : ByteArray) (lo hi : Int) (hm : s.size ≤ 1000000000) (k : Nat) (hk : s.size + 1 < k) : spec_l4Digits.f k s lo hi = some (digOk s lo hi) := by
  obtain ⟨k, rfl⟩ : ∃ m, k = m + 1 := ⟨k - 1, by omega⟩
  have hl := digits_loop s hm s.size k 0 (by omega) (by omega) (by omega)
  have hl' : spec_l4Digits.l0 k s 0 = some (allDg s) := hl
  unfold spec_l4Digits.f digOk
  by_cases h1 : (s.size : Int) < lo
  · have e1 : decide (lo ≤ (s.size : Int)) = false := decide_eq_false (by omega)
    rw [if_pos h1, spec_l4Digits.j0, if_pos rfl, e1]
    simp
  · have e1 : decide (lo ≤ (s.size : Int)) = true := decide_eq_true (by omega)
    rw [if_neg h1, spec_l4Digits.j0, e1, hl']
    by_cases h2 : (s.size : Int) > hi
    · have e2 : decide ((s.size : Int) ≤ hi) = false := decide_eq_false (by omega)
      rw [decide_eq_true h2, if_pos rfl, e2]
      simp
    · have e2 : decide ((s.size : Int) ≤ hi) = true := decide_eq_true (by omega)
      rw [decide_eq_false h2, if_neg (by decide), e2]
      simp
theorem goodPan_eq (s : ByteArray) (hm : s.size ≤ 1000000000) (k : Nat) (hk : s.size + 1 < k) : spec_l4GoodPan.f k s = some (digOk s 13 19) := by
  unfold spec_l4GoodPan.f
  rw [digits_eq s 13 19 hm k hk, Option.bind_some]
theorem xor_loop (a b : List Int) (hab : a.length ≤ b.length) (hl : a.length ≤ 1048576) (d : Nat) : ∀ (k i : Nat) (x5 : List Int), x5.length = a.length → i ≤ a.length → a.length - i = d → d < k →
    spec_l1Xor.l0 k a b x5 (a.length : Int) (i : Int) = some (x5.take i ++ (xorL a b).drop i) := by
  induction d with
  | zero =>
    intro k i x5 h5 hi hd hk
    obtain ⟨k, rfl⟩ : ∃ m, k = m + 1 := ⟨k - 1, by omega⟩
    rw [spec_l1Xor.l0, if_neg (by omega), List.drop_of_length_le (by rw [xorL_length a b hab]; omega), List.append_nil, List.take_of_length_le (by omega)]
  | succ d ih =>
    intro k i x5 h5 hi hd hk
    obtain ⟨k, rfl⟩ : ∃ m, k = m + 1 := ⟨k - 1, by omega⟩
    have hlt : i < a.length := by omega
    have hx : i < (xorL a b).length := by rw [xorL_length a b hab]; exact hlt
    rw [spec_l1Xor.l0, if_pos (by omega), if_pos (by omega), if_pos (by omega), if_pos (by omega), if_pos (by omega), w64_succ (by omega), Int.toNat_natCast, ih k (i + 1) _ (by simpa using h5) (by omega) (by omega) (by omega)]
    congr 1
    have e : (x5.set i (Go.bits .xor .u8 (rd a (i : Int)) (rd b (i : Int)))).take (i + 1) = x5.take i ++ [Go.bits .xor .u8 (rd a (i : Int)) (rd b (i : Int))] := by
      rw [take_nth _ _ (by simp; omega), nth_at _ _ (by simp; omega), List.getElem_set_self, List.take_set_of_le (Nat.le_refl _)]
    rw [e, List.append_assoc, List.singleton_append, ← List.getElem_cons_drop hx]
    congr 2
    rw [rd_nth, rd_nth, nth_at a i hlt, nth_at b i (by omega)]
    simp [xorL]
theorem xor_eq (a b : List Int) (hab : a.length ≤ b.length) (hl : a.length ≤ 1048576) (k : Nat) (hk : a.length < k) : spec_l1Xor.f k a b = some (xorL a b) := by
  unfold spec_l1Xor.f
  rw [if_pos (by omega), if_pos (by omega), Int.toNat_natCast]
  have h := xor_loop a b hab hl a.length k 0 (List.replicate a.length 0) (by simp) (by omega) (by omega) hk
  simpa using h
theorem nib_xor (a b c d : Int) (ha : 0 ≤ a ∧ a ≤ 15) (hb : 0 ≤ b ∧ b ≤ 15) (hc : 0 ≤ c ∧ c ≤ 15) (hd : 0 ≤ d ∧ d ≤ 15) : Go.bits .xor .u8 (16 * a + b) (16 * c + d) = 16 * Go.bits .xor .u8 a c + Go.bits .xor .u8 b d ∧ 0 ≤ Go.bits .xor .u8 a c ∧ Go.bits .xor .u8 a c ≤ 15 := by
  obtain ⟨⟨a, rfl⟩, ha⟩ : (∃ n : Nat, a = n) ∧ a ≤ 15 := ⟨⟨a.toNat, by omega⟩, ha.2⟩
  obtain ⟨⟨b, rfl⟩, hb⟩ : (∃ n : Nat, b = n) ∧ b ≤ 15 := ⟨⟨b.toNat, by omega⟩, hb.2⟩
  obtain ⟨⟨c, rfl⟩, hc⟩ : (∃ n : Nat, c = n) ∧ c ≤ 15 := ⟨⟨c.toNat, by omega⟩, hc.2⟩
  obtain ⟨⟨d, rfl⟩, hd⟩ : (∃ n : Nat, d = n) ∧ d ≤ 15 := ⟨⟨d.toNat, by omega⟩, hd.2⟩
  have h := (List.all_eq_true.1 (show ((List.range 16).all fun a => (List.range 16).all fun b => (List.range 16).all fun c => (List.range 16).all fun d => decide (Go.bits .xor .u8 (16 * (a : Int) + (b : Int)) (16 * (c : Int) + (d : Int)) = 16 * Go.bits .xor .u8 (a : Int) (c : Int) + Go.bits .xor .u8 (b : Int) (d : Int) ∧ 0 ≤ Go.bits .xor .u8 (a : Int) (c : Int) ∧ Go.bits .xor .u8 (a : Int) (c : Int) ≤ 15)) = true by decide +kernel)) a (List.mem_range.2 (by omega))
  have h := (List.all_eq_true.1 h) b (List.mem_range.2 (by omega))
  have h := (List.all_eq_true.1 h) c (List.mem_range.2 (by omega))
  exact of_decide_eq_true ((List.all_eq_true.1 h) d (List.mem_range.2 (by omega)))
/-- Digits, two to a byte. -/
def packL : List Int → List Int
  | a :: b :: t => (16 * a + b) :: packL t
  | _ => []
theorem xorL_cons (a c : Int) (s t : List Int) : xorL (a :: s) (c :: t) = Go.bits .xor .u8 a c :: xorL s t := rfl
theorem packL_xor : ∀ (n : Nat) (ds es : List Int), ds.length = 2 * n → es.length = 2 * n → Nibs ds → Nibs es → packL (xorL ds es) = xorL (packL ds) (packL es) ∧ Nibs (xorL ds es)
  | 0, [], [], _, _, _, _ => ⟨rfl, fun d hd => by simp [xorL] at hd⟩
  | n + 1, a :: b :: ds, c :: d :: es, h1, h2, h3, h4 => by
    have ha := h3 a (by simp)
    have hb := h3 b (by simp)
    have hc := h4 c (by simp)
    have hd := h4 d (by simp)
    obtain ⟨i1, i2⟩ := packL_xor n ds es (by simp at h1; omega) (by simp at h2; omega) (fun x hx => h3 x (by simp [hx])) (fun x hx => h4 x (by simp [hx]))
    have e := nib_xor a b c d ha hb hc hd
    have e2 := nib_xor b b d d hb hb hd hd
    refine ⟨?_, fun x hx => ?_⟩
    · rw [xorL_cons, xorL_cons, packL, i1, packL, packL, xorL_cons, e.1]
    · rw [xorL_cons, xorL_cons] at hx
      rcases List.mem_cons.1 hx with rfl | hx
      · exact e.2
      · rcases List.mem_cons.1 hx with rfl | hx
        · exact e2.2
        · exact i2 x hx
theorem byte_at (pre suf : List Int) (a b : Int) (ha : 0 ≤ a ∧ a ≤ 15) (hb : 0 ≤ b ∧ b ≤ 15) (hs : Nibs suf) : numH (pre ++ a :: b :: suf) / 16 ^ suf.length % 256 = 16 * a + b := by
  have e : pre ++ a :: b :: suf = (pre ++ [a] ++ [b]) ++ suf := by simp
  obtain ⟨h0, h1⟩ := numH_bound suf hs
  rw [e, numH_app, numH_snoc, numH_snoc, Int.add_comm, Int.add_mul_ediv_right _ _ (Int.ne_of_gt (Int.pow_pos (by decide))), Int.ediv_eq_zero_of_lt h0 h1]
  omega
theorem sixteen (l : List Int) (h : l.length = 16) : ∃ d0 d1 d2 d3 d4 d5 d6 d7 d8 d9 d10 d11 d12 d13 d14 d15, l = [d0, d1, d2, d3, d4, d5, d6, d7, d8, d9, d10, d11, d12, d13, d14, d15] := by
  match l, h with
  | [d0, d1, d2, d3, d4, d5, d6, d7, d8, d9, d10, d11, d12, d13, d14, d15], _ => exact ⟨_, _, _, _, _, _, _, _, _, _, _, _, _, _, _, _, rfl⟩
theorem outN_pack (ds : List Int) (h : ds.length = 16) (hn : Nibs ds) : outN (numH ds) 8 = packL ds := by
  obtain ⟨d0, d1, d2, d3, d4, d5, d6, d7, d8, d9, d10, d11, d12, d13, d14, d15, rfl⟩ := sixteen ds h
  have g : ∀ (pre suf : List Int) (a b : Int), pre ++ a :: b :: suf = [d0, d1, d2, d3, d4, d5, d6, d7, d8, d9, d10, d11, d12, d13, d14, d15] → numH [d0, d1, d2, d3, d4, d5, d6, d7, d8, d9, d10, d11, d12, d13, d14, d15] / 16 ^ suf.length % 256 = 16 * a + b := by
    intro pre suf a b e
    rw [← e] at hn ⊢
    exact byte_at pre suf a b (hn a (by simp)) (hn b (by simp)) (fun x hx => hn x (by simp [hx]))
  have g0 : numH [d0, d1, d2, d3, d4, d5, d6, d7, d8, d9, d10, d11, d12, d13, d14, d15] / 16 ^ 14 % 256 = 16 * d0 + d1 := g [] [d2, d3, d4, d5, d6, d7, d8, d9, d10, d11, d12, d13, d14, d15] d0 d1 rfl
  have g1 : numH [d0, d1, d2, d3, d4, d5, d6, d7, d8, d9, d10, d11, d12, d13, d14, d15] / 16 ^ 12 % 256 = 16 * d2 + d3 := g [d0, d1] [d4, d5, d6, d7, d8, d9, d10, d11, d12, d13, d14, d15] d2 d3 rfl
  have g2 : numH [d0, d1, d2, d3, d4, d5, d6, d7, d8, d9, d10, d11, d12, d13, d14, d15] / 16 ^ 10 % 256 = 16 * d4 + d5 := g [d0, d1, d2, d3] [d6, d7, d8, d9, d10, d11, d12, d13, d14, d15] d4 d5 rfl
  have g3 : numH [d0, d1, d2, d3, d4, d5, d6, d7, d8, d9, d10, d11, d12, d13, d14, d15] / 16 ^ 8 % 256 = 16 * d6 + d7 := g [d0, d1, d2, d3, d4, d5] [d8, d9, d10, d11, d12, d13, d14, d15] d6 d7 rfl
  have g4 : numH [d0, d1, d2, d3, d4, d5, d6, d7, d8, d9, d10, d11, d12, d13, d14, d15] / 16 ^ 6 % 256 = 16 * d8 + d9 := g [d0, d1, d2, d3, d4, d5, d6, d7] [d10, d11, d12, d13, d14, d15] d8 d9 rfl
  have g5 : numH [d0, d1, d2, d3, d4, d5, d6, d7, d8, d9, d10, d11, d12, d13, d14, d15] / 16 ^ 4 % 256 = 16 * d10 + d11 := g [d0, d1, d2, d3, d4, d5, d6, d7, d8, d9] [d12, d13, d14, d15] d10 d11 rfl
  have g6 : numH [d0, d1, d2, d3, d4, d5, d6, d7, d8, d9, d10, d11, d12, d13, d14, d15] / 16 ^ 2 % 256 = 16 * d12 + d13 := g [d0, d1, d2, d3, d4, d5, d6, d7, d8, d9, d10, d11] [d14, d15] d12 d13 rfl
  have g7 : numH [d0, d1, d2, d3, d4, d5, d6, d7, d8, d9, d10, d11, d12, d13, d14, d15] / 16 ^ 0 % 256 = 16 * d14 + d15 := g [d0, d1, d2, d3, d4, d5, d6, d7, d8, d9, d10, d11, d12, d13] [] d14 d15 rfl
  obtain ⟨v, hv⟩ : ∃ v, v = numH [d0, d1, d2, d3, d4, d5, d6, d7, d8, d9, d10, d11, d12, d13, d14, d15] := ⟨_, rfl⟩
  rw [← hv] at g0 g1 g2 g3 g4 g5 g6 g7 ⊢
  have e : outN v 8 = [v / 2 ^ 56 % 256, v / 2 ^ 48 % 256, v / 2 ^ 40 % 256, v / 2 ^ 32 % 256, v / 2 ^ 24 % 256, v / 2 ^ 16 % 256, v / 2 ^ 8 % 256, v / 2 ^ 0 % 256] := rfl
  rw [e, show (2 : Int) ^ 56 = 16 ^ 14 from by decide, g0,
    show (2 : Int) ^ 48 = 16 ^ 12 from by decide, g1,
    show (2 : Int) ^ 40 = 16 ^ 10 from by decide, g2,
    show (2 : Int) ^ 32 = 16 ^ 8 from by decide, g3,
    show (2 : Int) ^ 24 = 16 ^ 6 from by decide, g4,
    show (2 : Int) ^ 16 = 16 ^ 4 from by decide, g5,
    show (2 : Int) ^ 8 = 16 ^ 2 from by decide, g6,
    show (2 : Int) ^ 0 = 16 ^ 0 from by decide, g7]
  rfl
theorem pack_eq (l : List Int) (h : l.length = 16) (hn : Nibs l) (k : Nat) (hk : 8 < k) : spec_l4Pack.f k l = some (packL l) := by
  obtain ⟨d0, d1, d2, d3, d4, d5, d6, d7, d8, d9, d10, d11, d12, d13, d14, d15, rfl⟩ := sixteen l h
  obtain ⟨k, rfl⟩ : ∃ m, k = m + 9 := ⟨k - 9, by omega⟩
  have e : ∀ a b : Int, a ∈ [d0, d1, d2, d3, d4, d5, d6, d7, d8, d9, d10, d11, d12, d13, d14, d15] → b ∈ [d0, d1, d2, d3, d4, d5, d6, d7, d8, d9, d10, d11, d12, d13, d14, d15] → ((a * 16) % 256 + b) % 256 = 16 * a + b := fun a b ha hb => by
    have := hn a ha
    have := hn b hb
    omega
  have hf : spec_l4Pack.f (k + 9) [d0, d1, d2, d3, d4, d5, d6, d7, d8, d9, d10, d11, d12, d13, d14, d15] = some [((d0 * 16) % 256 + d1) % 256, ((d2 * 16) % 256 + d3) % 256, ((d4 * 16) % 256 + d5) % 256, ((d6 * 16) % 256 + d7) % 256, ((d8 * 16) % 256 + d9) % 256, ((d10 * 16) % 256 + d11) % 256, ((d12 * 16) % 256 + d13) % 256, ((d14 * 16) % 256 + d15) % 256] := by
    simp [spec_l4Pack.f, spec_l4Pack.l0, rd, wrap64]
  rw [hf, e d0 d1 (by simp) (by simp), e d2 d3 (by simp) (by simp), e d4 d5 (by simp) (by simp), e d6 d7 (by simp) (by simp), e d8 d9 (by simp) (by simp), e d10 d11 (by simp) (by simp), e d12 d13 (by simp) (by simp), e d14 d15 (by simp) (by simp)]
  rfl
/-- The packed XOR of digits. -/
theorem pin_pack (ds : List Int) (pan : ByteArray) (h : ds.length = 16) (hn : Nibs ds) (hp : allDg pan = true) (h13 : 13 ≤ pan.size) : packL (xorL ds (accD pan)) = pinBlk ds pan ∧ Nibs (xorL ds (accD pan)) ∧ (xorL ds (accD pan)).length = 16 := by
  have ha := accD_length pan h13
  have hna := accD_nibs hp
  obtain ⟨i1, i2⟩ := packL_xor 8 ds (accD pan) h ha hn hna
  refine ⟨?_, i2, by rw [xorL_length _ _ (by omega), h]⟩
  rw [i1, pinBlk, outN_pack ds h hn, outN_pack _ ha hna]
theorem accS_eq (s : ByteArray) (h : allDg s = true) : accS s = accD s := by
  unfold accS accD dgs
  rw [← List.map_drop, ← List.map_take]
  congr 1
  refine List.map_congr_left fun x hx => ?_
  have := allDg_bI h x (List.mem_of_mem_drop (List.mem_of_mem_take hx))
  omega
end Go.Proofs.Ytiejallnkgllnaa.LPin
