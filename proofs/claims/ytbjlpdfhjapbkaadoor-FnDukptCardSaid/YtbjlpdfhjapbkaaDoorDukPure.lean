/- FnDukpt: the print answers true; the walk. -/
import Derived.Test.YtbjlpdfhjapbkaaDoorDukN
import Derived.Test.YtbjlpdfhjapbkaaDoorLDuk
namespace Go.Proofs.YtbjlpdfhjapbkaaDoor
open Go.RowKit Go.Proofs.YtbjlpdfhjapbkaaDoorW.PrintWords Go.Proofs.YtbjlpdfhjapbkaaDoorW.PrintLast Go.Proofs.YtbjlpdfhjapbkaaDoorW.PrintMore Go.Proofs.YtbjlpdfhjapbkaaDoor.D
open Go.Proofs.YtbjlpdfhjapbkaaDoor.B (xorL xorL_length)
set_option linter.unusedVariables false
set_option maxHeartbeats 1000000
namespace LDuk
theorem des_some (a b : List Int) (d : Bool) (ha : Bytes a) (hb : Bytes b) (la : a.length = 8) (lb : b.length = 8) : impl_Des.f a b d = some (desL a b d) := by
  rw [impl_Des.f, LDes8.impl_Des.f, if_pos ⟨⟨bytesB_mk ha, bytesB_mk hb⟩, la, lb⟩]
theorem key_some (a b : List Int) (ha : Bytes a) (hb : Bytes b) : impl_DukptKey.f a b = some (dukR a b) := by rw [impl_DukptKey.f, if_pos ⟨bytesB_mk ha, bytesB_mk hb⟩]
theorem half_way (key r8 : List Int) (hk : key.length = 16) (hkb : Bytes key) (h8 : r8.length = 8) (h8b : Bytes r8) (k : Nat) (hk8 : 8 < k) :
    laws_xor.f k r8 (key.drop 8) = some (xorL r8 (key.drop 8)) ∧ impl_Des.f (key.take 8) (xorL r8 (key.drop 8)) false = some (desL (key.take 8) (xorL r8 (key.drop 8)) false) ∧ (desL (key.take 8) (xorL r8 (key.drop 8)) false).length = 8 ∧
    laws_xor.f k (desL (key.take 8) (xorL r8 (key.drop 8)) false) (key.drop 8) = some (halfL key r8) := by
  have hd : (key.drop 8).length = 8 := by rw [List.length_drop]; omega
  have ht : (key.take 8).length = 8 := by rw [List.length_take]; omega
  have hx : (xorL r8 (key.drop 8)).length = 8 := by rw [xorL_length _ _ (by omega), h8]
  have hl := desL_length (key.take 8) _ false hx
  exact ⟨xor_eq _ _ (by omega) (by omega) k (by omega), des_some _ _ _ (hkb.take 8) (xorL_bytes _ _ h8b (hkb.drop 8)) ht hx, hl, xor_eq _ _ (by omega) (by omega) k (by omega)⟩
theorem pure (l0 : List Int) (hb0 : Bytes l0) : ∃ k, laws_FnDukpt.f k l0 = some true := by
  refine ⟨60, ?_⟩
  unfold laws_FnDukpt.f
  by_cases hbig0 : (l0.length : Int) > 1048576
  · rw [if_pos hbig0]
  rw [if_neg hbig0]
  obtain ⟨bdk, hk, hkl, hkb⟩ := cut_some l0 0 16 (by omega) (by omega) hb0 (by omega) 60 (by omega)
  have hk' : laws_cut.f 60 l0 0 16 = some bdk := hk
  obtain ⟨s, ksn, hd, hnb, hnl⟩ := draw_some l0 hb0 (by omega)
  rw [hk', Option.bind_some, hd, Option.bind_some]
  dsimp only
  rcases hnl with h10 | h9
  · rw [if_pos (by omega), if_pos (by omega), if_pos (by omega), if_pos (by omega), key_some _ _ hkb hnb, Option.bind_some]
    obtain ⟨_, c2, c3⟩ := cnt_eq ksn h10 hnb
    have e7 : rd ksn 7 = nth ksn 7 := rd_nth ksn 7
    have e8 : rd ksn 8 = nth ksn 8 := rd_nth ksn 8
    have e9 : rd ksn 9 = nth ksn 9 := rd_nth ksn 9
    have en : (Go.bits .or .i64 (Go.bits .or .i64 (wrap64 ((wrap64 (Go.bits .and .u8 (rd ksn 7) 31)) * 65536)) (wrap64 ((wrap64 (rd ksn 8)) * 256))) (wrap64 (rd ksn 9))) = (cntN ksn : Int) := by
      rw [e7, e8, e9]; exact c2
    rw [en]
    have hless : ∀ m : Int, (((ksn.set (7 : Int).toNat (Go.bits .or .u8 (Go.bits .and .u8 (rd ksn 7) 224) ((m / 65536) % 256))).set (8 : Int).toNat ((m / 256) % 256)).set (9 : Int).toNat (m % 256)) = lessL ksn m := fun m => by rw [e7]; rfl
    clear en e7 e8 e9 c2
    have hD : dukR bdk ksn = keyAt bdk ksn (cntN ksn) 21 := by unfold dukR; rw [if_pos ⟨hkl, h10⟩]; rfl
    obtain ⟨g1, g2⟩ := keyAt_good bdk ksn (cntN ksn) hkl h10 hnb c3 21
    obtain ⟨D, hDe⟩ : ∃ D, D = keyAt bdk ksn (cntN ksn) 21 := ⟨_, rfl⟩
    rw [← hDe] at g1 g2 hD
    rw [hD]
    by_cases h0 : cntN ksn = 0
    · have hI : D = initR bdk ksn := by
        rw [hDe]
        have hz : ∀ s, keyAt bdk ksn 0 s = initL bdk ksn := fun s => by
          induction s with
          | zero => rfl
          | succ s ih => rw [keyAt, Nat.zero_div, if_neg (by decide), ih]
        rw [h0, hz]; unfold initR; rw [if_pos ⟨hkl, h10⟩]
      rw [if_pos (by omega), if_pos (by rw [g1]; rfl), impl_DukptInitial.f, if_pos ⟨bytesB_mk hkb, bytesB_mk hnb⟩, Option.bind_some, hI, same_refl, Option.bind_some, if_pos rfl, spec_DukptInitial.f, if_pos ⟨bytesB_mk hkb, bytesB_mk hnb⟩, Option.bind_some, same_refl, Option.bind_some]
    · obtain ⟨j, q, hjq⟩ := low_of (cntN ksn) (by omega)
      have hm := drop_bits j q (by omega)
      have hmle : 2 ^ j * (2 * q) ≤ 2 ^ j * (2 * q + 1) := Nat.mul_le_mul_left _ (by omega)
      obtain ⟨m, hme⟩ : ∃ m, m = 2 ^ j * (2 * q) := ⟨_, rfl⟩
      rw [← hjq, ← hme] at hm
      have hj : j ≤ 20 := by
        rcases Nat.lt_or_ge 20 j with h | h
        · have h2 := Nat.pow_le_pow_right (show 0 < 2 by decide) (show 21 ≤ j from h)
          have h3 : 2 ^ j ≤ 2 ^ j * (2 * q + 1) := Nat.le_mul_of_pos_right _ (by omega)
          rw [← hjq] at h3
          have h4 : (2 : Nat) ^ 21 = 2097152 := rfl
          omega
        · exact h
      rw [hm]
      clear hm
      obtain ⟨l1, l2, l3, l4⟩ := less_good ksn h10 hnb m (by rw [← hme, ← hjq] at hmle; omega)
      have hkey : D = stepL (keyAt bdk ksn m 21) (rL ksn (cntN ksn : Int)) := by
        have := key_less bdk ksn j q hj
        rw [← hjq, ← hme, ← hDe] at this
        exact this
      have hDl : dukR bdk (lessL ksn m) = keyAt bdk ksn m 21 := by
        unfold dukR dukL
        rw [if_pos ⟨hkl, l1⟩, l4, keyAt_base bdk _ _ l3]
      obtain ⟨K, hKe⟩ : ∃ K, K = keyAt bdk ksn m 21 := ⟨_, rfl⟩
      obtain ⟨k1, k2⟩ := keyAt_good bdk ksn m hkl h10 hnb (by rw [← hme, ← hjq] at hmle; omega) 21
      rw [← hKe] at hkey hDl k1 k2
      have hr := rL_self ksn h10 hnb
      have r1 : (ksn.drop 2).length = 8 := by rw [List.length_drop, h10]
      have hmask : laws_xor.f 60 K (([192, 192, 192, 192, 0, 0, 0, 0, 192, 192, 192, 192, 0, 0, 0, 0] : List Int)) = some (maskL 0 mH K) := by
        rw [mask_xor K k1]; exact xor_eq _ _ (by rw [k1]; decide) (by omega) 60 (by omega)
      obtain ⟨m1, m2⟩ := maskL_good K k1 k2
      obtain ⟨M, hMe⟩ : ∃ M, M = maskL 0 mH K := ⟨_, rfl⟩
      have hst : stepL K (ksn.drop 2) = halfL M (ksn.drop 2) ++ halfL K (ksn.drop 2) := by rw [hMe]; rfl
      rw [← hMe] at hmask m1 m2
      obtain ⟨a1, a2, a3, a4⟩ := half_way M (ksn.drop 2) m1 m2 r1 (hnb.drop 2) 60 (by omega)
      obtain ⟨b1, b2, b3, b4⟩ := half_way K (ksn.drop 2) k1 k2 r1 (hnb.drop 2) 60 (by omega)
      obtain ⟨_, _, _, a5⟩ := half_way M (ksn.drop 2) m1 m2 r1 (hnb.drop 2) 59 (by omega)
      obtain ⟨_, _, _, b5⟩ := half_way K (ksn.drop 2) k1 k2 r1 (hnb.drop 2) 59 (by omega)
      have ha := (halfL_good M (ksn.drop 2) m1 m2 r1).1
      have hb := (halfL_good K (ksn.drop 2) k1 k2 r1).1
      rw [if_neg (by omega), Option.bind_some, if_pos (by rw [List.length_nil, h10]; decide), List.nil_append, Option.bind_some, if_pos (by omega), if_pos (by omega), if_pos (by omega), hless, key_some _ _ hkb l2, hDl, Option.bind_some, if_pos (by omega),
        hmask, Option.bind_some, if_pos (by omega), if_pos (by omega), a1, Option.bind_some, a2, Option.bind_some, if_pos (by omega), b1, Option.bind_some, b2, Option.bind_some, if_pos (by omega), b3, laws_FnDukpt.j0, if_neg (by decide), if_pos (by omega), a5, Option.bind_some,
        if_pos (by omega), b5, Option.bind_some, if_pos (by omega), hkey, hr, hst, same_refl, Option.bind_some]
  · have hD : dukR bdk ksn = [] := by unfold dukR; rw [if_neg (fun h => by omega)]
    rw [if_neg (by omega), key_some _ _ hkb hnb, Option.bind_some, hD]
    rfl
end LDuk
theorem laws_FnDukpt.walk (a0 : Option Addr) (len0 cap0 : Nat) (z0 : List Int) (w : World) (ht : Tab8 w) (w0 : (a0 = none ∧ len0 = 0 ∧ cap0 = 0 ∧ z0 = []) ∨ ∃ x, a0 = some x ∧ len0 ≤ cap0 ∧ cap0 ≤ maxLen ∧ z0.length = cap0 ∧ (∀ i, i < z0.length → w.cell? (x.add i) = some (.int .u8 (z0.getD i 0))) ∧ ∀ n ∈ z0, (Lit.int .u8 n).wf = true) (y0 : len0 * 1 ≤ 140737488351232) :
    Calls Tryd.prog 11 #[.slice a0 len0 cap0] w fun e w' => e = .returned (.bool true) ∧ Below w.heap.size w w' := by
  obtain ⟨l0, rfl, hr0, hm0, hw0, hc0⟩ := ReadsInt.ofRowC w0
  have hb0 : Bytes l0 := fun x hx => byte_of_wf' (hw0 x hx)
  obtain ⟨k, h⟩ := LDuk.pure l0 hb0
  refine (LDuk.laws_FnDukpt.calls k _ _ l0 true w rfl ht (Kd.C_of_reads (d := (0 : Int)) (h1 := fun _ => rfl) hr0) hc0 h).mono ?_
  rintro e w' ⟨rfl, hd⟩
  exact ⟨rfl, hd⟩
end Go.Proofs.YtbjlpdfhjapbkaaDoor
