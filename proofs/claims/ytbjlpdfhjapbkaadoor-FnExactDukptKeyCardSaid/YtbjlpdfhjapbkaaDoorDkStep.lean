/- DUKPT's steps, plainly; what the printed spec.DukptKey computes. Conditions: bytes. -/
import Derived.Test.YtbjlpdfhjapbkaaDoorXorW
import Derived.Test.YtbjlpdfhjapbkaaDoorPK
import Derived.Test.YtbjlpdfhjapbkaaDoorDkNum
namespace Go.Proofs.YtbjlpdfhjapbkaaDoor
open Go.RowKit Go.Proofs.YtbjlpdfhjapbkaaDoorW.PrintWords Go.Proofs.YtbjlpdfhjapbkaaDoorW.PrintLast Go.Proofs.YtbjlpdfhjapbkaaDoorW.PrintMore Go.Proofs.YtbjlpdfhjapbkaaDoor.D
open Go.Proofs.YtbjlpdfhjapbkaaDoor.B (xorL xorL_length)
set_option linter.unusedVariables false

def halfL (key r8 : List Int) : List Int := xorL (desL (key.take 8) (xorL r8 (key.drop 8)) false) (key.drop 8)
theorem halfL_good (key r8 : List Int) (hk : key.length = 16) (hkb : Bytes key) (h8 : r8.length = 8) : (halfL key r8).length = 8 ∧ Bytes (halfL key r8) := by
  have hd : (key.drop 8).length = 8 := by rw [List.length_drop]; omega
  have hx : (xorL r8 (key.drop 8)).length = 8 := by rw [xorL_length _ _ (by omega), h8]
  have hl := desL_length (key.take 8) _ false hx
  exact ⟨by unfold halfL; rw [xorL_length _ _ (by omega), hl], xorL_bytes _ _ (desL_bytes _ _ _ hx) (hkb.drop 8)⟩
def stepL (key r8 : List Int) : List Int := halfL (maskL 0 mH key) r8 ++ halfL key r8
theorem maskL_good (key : List Int) (hk : key.length = 16) (hkb : Bytes key) : (maskL 0 mH key).length = 16 ∧ Bytes (maskL 0 mH key) := ⟨by rw [maskL_length, hk], maskL_bytes mH key 0 rfl mH_bytes hkb⟩
theorem stepL_good (key r8 : List Int) (hk : key.length = 16) (hkb : Bytes key) (h8 : r8.length = 8) : (stepL key r8).length = 16 ∧ Bytes (stepL key r8) := by
  obtain ⟨m1, m2⟩ := maskL_good key hk hkb
  obtain ⟨a1, a2⟩ := halfL_good _ r8 m1 m2 h8
  obtain ⟨b1, b2⟩ := halfL_good key r8 hk hkb h8
  exact ⟨by unfold stepL; rw [List.length_append, a1, b1], a2.append b2⟩
theorem initL_bytes (bdk ksn : List Int) (hk : bdk.length = 16) (h : ksn.length = 10) (hb : Bytes ksn) : Bytes (initL bdk ksn) := by
  have h8 : ((baseL ksn).take 8).length = 8 := by rw [List.length_take, (baseL_good ksn h hb).1]; rfl
  exact (tdeaL_bytes _ _ _ _ h8).append (tdeaL_bytes _ _ _ _ h8)
/-- The key behind the s highest of 21 bits. -/
def keyAt (bdk ksn : List Int) (n : Nat) : Nat → List Int
  | 0 => initL bdk ksn
  | s + 1 => if n / 2 ^ (20 - s) % 2 = 1 then stepL (keyAt bdk ksn n s) (rL ksn (hi n (20 - s) : Nat)) else keyAt bdk ksn n s
theorem keyAt_good (bdk ksn : List Int) (n : Nat) (hk : bdk.length = 16) (h : ksn.length = 10) (hb : Bytes ksn) (hn : n < 2097152) : ∀ s, (keyAt bdk ksn n s).length = 16 ∧ Bytes (keyAt bdk ksn n s)
  | 0 => ⟨initL_length bdk ksn h hb, initL_bytes bdk ksn hk h hb⟩
  | s + 1 => by
    obtain ⟨g1, g2⟩ := keyAt_good bdk ksn n hk h hb hn s
    unfold keyAt
    split
    · exact stepL_good _ _ g1 g2 (rL_num ksn h hb _ (by omega) (by have := hi_le n (20 - s); omega)).1
    · exact ⟨g1, g2⟩
def dukL (bdk ksn : List Int) : List Int := keyAt bdk ksn (cntN ksn) 21
theorem spec_Half_eq (key r8 : List Int) (hk : key.length = 16) (hkb : Bytes key) (h8 : r8.length = 8) (h8b : Bytes r8) : P.spec_l3Half.f key r8 = some (halfL key r8) := by
  have hd : (key.drop 8).length = 8 := by rw [List.length_drop]; omega
  have ht : (key.take 8).length = 8 := by rw [List.length_take]; omega
  have hx : (xorL r8 (key.drop 8)).length = 8 := by rw [xorL_length _ _ (by omega), h8]
  have hl := desL_length (key.take 8) _ false hx
  unfold P.spec_l3Half.f
  rw [if_pos (by omega), spec_l1Xor_of _ _ (by omega) (by omega), Option.bind_some, spec_Des_some _ _ _ (hkb.take 8) (xorL_bytes _ _ h8b (hkb.drop 8)) ht hx, Option.bind_some, spec_l1Xor_of _ _ (by omega) (by omega), Option.bind_some]
  rfl
theorem walk_step (k : Nat) (bdk ksn : List Int) (a2 : Int) (h0 : a2 ≠ 0) (h : ksn.length = 10) (hb : Bytes ksn) (h1 : 0 ≤ a2) (h2 : a2 < 2097152) (prev : List Int) (hp : prev.length = 16) (hpb : Bytes prev)
    (hrec : P.spec_l3Walk.f k bdk ksn (wrap64 (a2 - (Go.bits .and .i64 a2 (wrap64 (-a2))))) = some prev) : P.spec_l3Walk.f (k + 1) bdk ksn a2 = some (stepL prev (rL ksn a2)) := by
  obtain ⟨hbl, hbb⟩ := baseL_good ksn h hb
  obtain ⟨r1, r2, _⟩ := rL_num ksn h hb a2 h1 h2
  obtain ⟨m1, m2⟩ := maskL_good prev hp hpb
  have l1 := (halfL_good (maskL 0 mH prev) (rL ksn a2) m1 m2 r1).1
  have l2 := (halfL_good prev (rL ksn a2) hp hpb r1).1
  have e : P.spec_l3Walk.f (k + 1) bdk ksn a2 = if a2 = 0 then ((P.spec_DukptInitial.f k bdk ksn).bind fun t452 => (some t452)) else ((P.spec_l3Walk.f k bdk ksn (wrap64 (a2 - (Go.bits .and .i64 a2 (wrap64 (-a2)))))).bind fun t455 => ((P.spec_l3Count.f ksn).bind fun bt458 => (if 7 < (bt458.2.length : Int) then (if 8 < (bt458.2.length : Int) then (if 9 < (bt458.2.length : Int) then ((some (((bt458.2.set (7 : Int).toNat (Go.bits .or .u8 (rd bt458.2 7) ((a2 / 65536) % 256))).set (8 : Int).toNat ((a2 / 256) % 256)).set (9 : Int).toNat ((a2) % 256) : List Int)).bind fun y465 => ((P.spec_l3C0.f).bind fun t466 => ((spec_l1Xor.f t455 t466).bind fun t469 => (if 2 ≤ (bt458.2.length : Int) then ((P.spec_l3Half.f t469 (y465.drop 2)).bind fun t476 => ((P.spec_l3Half.f t455 (y465.drop 2)).bind fun t483 => (if t476.length + t483.length < 140737488355328 then (some (t476 ++ t483)) else (none)))) else (none))))) else (none)) else (none)) else (none)))) := rfl
  have ep : ((((baseL ksn).set (7 : Int).toNat (Go.bits .or .u8 (rd (baseL ksn) 7) ((a2 / 65536) % 256))).set (8 : Int).toNat ((a2 / 256) % 256)).set (9 : Int).toNat ((a2) % 256)).drop 2 = rL ksn a2 := rfl
  rw [e, if_neg h0, hrec, Option.bind_some, l3Count_eq ksn h hb, Option.bind_some]
  dsimp only
  rw [if_pos (by omega), if_pos (by omega), if_pos (by omega), Option.bind_some, l3C0_eq, Option.bind_some, spec_l1Xor_of _ _ (by rw [hp]; exact Nat.le_refl _) (by omega), Option.bind_some, if_pos (by omega), ep, ← mask_xor prev hp,
    spec_Half_eq _ _ m1 m2 r1 r2, Option.bind_some, spec_Half_eq _ _ hp hpb r1 r2, Option.bind_some, if_pos (by omega)]
  rfl
theorem walk_at (bdk ksn : List Int) (n : Nat) (hk : bdk.length = 16) (hkb : Bytes bdk) (h : ksn.length = 10) (hb : Bytes ksn) (hn : n < 2097152) : ∀ s, s ≤ 21 → ∀ k, s + 3 ≤ k → P.spec_l3Walk.f k bdk ksn ((hi n (21 - s) : Nat) : Int) = some (keyAt bdk ksn n s)
  | 0, _, k, hk3 => by
    obtain ⟨k', rfl⟩ : ∃ k', k = k' + 2 + 1 := ⟨k - 3, by omega⟩
    rw [hi_top n hn]
    show (if ((0 : Nat) : Int) = 0 then ((P.spec_DukptInitial.f (k' + 2) bdk ksn).bind fun t452 => (some t452)) else _) = _
    rw [if_pos (show ((0 : Nat) : Int) = 0 from rfl), spec_DukptInitial_at bdk ksn hkb hb k', Option.bind_some, initR, if_pos ⟨hk, h⟩]
    rfl
  | s + 1, hs, k, hk3 => by
    obtain ⟨k', rfl⟩ : ∃ k', k = k' + 1 := ⟨k - 1, by omega⟩
    obtain ⟨g1, g2⟩ := keyAt_good bdk ksn n hk h hb hn s
    have hst := hi_step n (20 - s)
    rw [show 20 - s + 1 = 21 - s by omega] at hst
    have e1 : 21 - (s + 1) = 20 - s := by omega
    rw [e1]
    unfold keyAt
    by_cases hbit : n / 2 ^ (20 - s) % 2 = 1
    · rw [if_pos hbit]
      obtain ⟨q, hq⟩ := hi_odd n (20 - s) hbit
      have hle := hi_le n (20 - s)
      have hp : 0 < 2 ^ (20 - s) := Nat.two_pow_pos _
      have hlow := low_bits (20 - s) q (by omega)
      rw [← hq] at hlow
      have hrec := walk_at bdk ksn n hk hkb h hb hn s (by omega) k' (by omega)
      rw [hbit, Nat.one_mul] at hst
      refine walk_step k' bdk ksn _ (by omega) h hb (by omega) (by omega) _ g1 g2 ?_
      rw [hlow, B.wrap64_in (by omega), show ((hi n (20 - s) : Nat) : Int) - ((2 ^ (20 - s) : Nat) : Int) = ((hi n (21 - s) : Nat) : Int) by omega]
      exact hrec
    · rw [if_neg hbit]
      have hz : n / 2 ^ (20 - s) % 2 = 0 := by omega
      rw [hz, Nat.zero_mul, Nat.add_zero] at hst
      rw [hst]
      exact walk_at bdk ksn n hk hkb h hb hn s (by omega) (k' + 1) (by omega)
def dukR (l0 l1 : List Int) : List Int := if l0.length = 16 ∧ l1.length = 10 then dukL l0 l1 else []
theorem dukR_length (l0 l1 : List Int) (hb1 : Bytes l1) : (dukR l0 l1).length ≤ 16 := by
  unfold dukR
  split
  · rename_i h
    unfold dukL
    rw [(keyAt_good l0 l1 _ h.1 h.2 hb1 (cnt_eq l1 h.2 hb1).2.2 21).1]
    exact Nat.le_refl _
  · simp
theorem spec_DukptKey_eq (l0 l1 : List Int) (hb0 : Bytes l0) (hb1 : Bytes l1) : P.spec_DukptKey.f 40 l0 l1 = some (dukR l0 l1) := by
  have e : ∀ x, P.spec_DukptKey.j0 40 l0 l1 x = if x = true then (some ([] : List Int)) else ((P.spec_l3Count.f l1).bind fun bt489 => ((P.spec_l3Walk.f 39 l0 l1 bt489.1).bind fun t493 => (some t493))) := fun _ => rfl
  unfold P.spec_DukptKey.f dukR
  rw [e, e]
  by_cases h0 : l0.length = 16
  · rw [if_pos (by omega)]
    by_cases h1 : l1.length = 10
    · obtain ⟨_, c2, c3⟩ := cnt_eq l1 h1 hb1
      have hw := walk_at l0 l1 (cntN l1) h0 hb0 h1 hb1 c3 21 (Nat.le_refl _) 39 (by omega)
      rw [Nat.sub_self, hi_zero] at hw
      rw [if_neg (by simp [h1]), l3Count_eq l1 h1 hb1, Option.bind_some]
      dsimp only
      rw [c2, hw, Option.bind_some, if_pos ⟨h0, h1⟩]
      rfl
    · rw [if_pos (by rw [bne_iff_ne]; omega), if_neg (fun h => h1 h.2)]
  · rw [if_neg (by omega), if_pos rfl, if_neg (fun h => h0 h.1)]
end Go.Proofs.YtbjlpdfhjapbkaaDoor
