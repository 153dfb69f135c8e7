/- The contracts of spec.DukptInitial and impl.DukptInitial in the print's shape. Conditions stand in the functions '.f'. -/
import Derived.Test.YtbjlpdfhjapbkaaDoorIni
namespace Go.Proofs.YtbjlpdfhjapbkaaDoor
open Go.RowKit Go.Proofs.YtbjlpdfhjapbkaaDoorW.PrintWords Go.Proofs.YtbjlpdfhjapbkaaDoorW.PrintLast Go.Proofs.YtbjlpdfhjapbkaaDoorW.PrintMore Go.Proofs.YtbjlpdfhjapbkaaDoor.D
open Go.Proofs.YtbjlpdfhjapbkaaDoor.B (xorL xorL_length)
set_option linter.unusedVariables false

def cntI (ksn : List Int) : Int := Go.bits .or .i64 (Go.bits .or .i64 (wrap64 ((wrap64 (Go.bits .and .u8 (nth ksn 7) 31)) * 65536)) (wrap64 ((wrap64 (nth ksn 8)) * 256))) (wrap64 (nth ksn 9))
theorem l3Count_eq (ksn : List Int) (h : ksn.length = 10) (hb : Bytes ksn) : P.spec_l3Count.f ksn = some (cntI ksn, baseL ksn) := by
  obtain ⟨k0, k1, k2, k3, k4, k5, k6, k7, k8, k9, rfl⟩ := ten ksn h
  simp [P.spec_l3Count.f, spec_l1Bytes.f, cntI, baseL, rd, nth]
theorem l3C0_eq : P.spec_l3C0.f = some (mH ++ mH) := by simp [P.spec_l3C0.f, mH]
theorem mask_xor (l : List Int) (h : l.length = 16) : maskL 0 mH l = xorL l (mH ++ mH) := by
  obtain ⟨a0, a1, a2, a3, a4, a5, a6, a7, a8, a9, a10, a11, a12, a13, a14, a15, rfl⟩ := sixteen l h
  rfl
theorem spec_l1Xor_of (a b : List Int) (h : a.length ≤ b.length) (h2 : a.length ≤ 1048576) : spec_l1Xor.f a b = some (xorL a b) := by rw [spec_l1Xor.f, if_pos ⟨h, h2⟩]
theorem spec_Tdea_of (l0 l1 : List Int) (a2 : Bool) (hb0 : Bytes l0) (hb1 : Bytes l1) (h0 : l0.length = 16) (h1 : l1.length = 8) (k : Nat) (hk : 1 ≤ k) : P.spec_Tdea.f k l0 l1 a2 = some (tdeaL (l0.take 8) (l0.drop 8) l1 a2) := by
  have h := spec_Tdea_eq l0 l1 a2 hb0 hb1
  rw [if_pos ⟨h0, h1⟩] at h
  exact at_rounds (fun k => P.spec_Tdea.mono l0 l1 a2 k) hk h
def initR (l0 l1 : List Int) : List Int := if l0.length = 16 ∧ l1.length = 10 then initL l0 l1 else []
theorem initR_length (l0 l1 : List Int) (hb1 : Bytes l1) : (initR l0 l1).length ≤ 16 := by
  unfold initR
  split
  · rename_i h
    rw [initL_length _ _ h.2 hb1]
    exact Nat.le_refl _
  · simp
theorem spec_DukptInitial_at (l0 l1 : List Int) (hb0 : Bytes l0) (hb1 : Bytes l1) (k : Nat) : P.spec_DukptInitial.f (k + 2) l0 l1 = some (initR l0 l1) := by
  have e : ∀ x, P.spec_DukptInitial.j0 (k + 2) l0 l1 x = if x = true then (some ([] : List Int)) else ((P.spec_l3Count.f l1).bind fun bt328 => (if 8 ≤ (bt328.2.length : Int) then ((P.spec_Tdea.f (k + 1) l0 (bt328.2.take 8) false).bind fun t336 => ((P.spec_l3C0.f).bind fun t339 => ((spec_l1Xor.f l0 t339).bind fun t342 => ((P.spec_Tdea.f (k + 1) t342 (bt328.2.take 8) false).bind fun t349 => (if t336.length + t349.length < 140737488355328 then (some (t336 ++ t349)) else (none)))))) else (none))) := fun _ => rfl
  unfold P.spec_DukptInitial.f initR
  rw [e, e]
  by_cases h0 : l0.length = 16
  · rw [if_pos (by omega)]
    by_cases h1 : l1.length = 10
    · obtain ⟨hbl, hbb⟩ := baseL_good l1 h1 hb1
      have h8 : ((baseL l1).take 8).length = 8 := by rw [List.length_take, hbl]; rfl
      have hm : (xorL l0 (mH ++ mH)).length = 16 := by rw [← mask_xor l0 h0, maskL_length, h0]
      have hmb : Bytes (xorL l0 (mH ++ mH)) := mask_xor l0 h0 ▸ maskL_bytes mH l0 0 rfl mH_bytes hb0
      have e1 := tdeaL_length (l0.take 8) (l0.drop 8) _ false h8
      have e2 := tdeaL_length ((xorL l0 (mH ++ mH)).take 8) ((xorL l0 (mH ++ mH)).drop 8) _ false h8
      rw [if_neg (by simp [h1]), l3Count_eq l1 h1 hb1, Option.bind_some]
      dsimp only
      rw [if_pos (by omega), spec_Tdea_of _ _ _ hb0 (hbb.take 8) h0 h8 _ (by omega), Option.bind_some, l3C0_eq, Option.bind_some, spec_l1Xor_of _ _ (by rw [h0]; exact Nat.le_refl _) (by omega), Option.bind_some,
        spec_Tdea_of _ _ _ hmb (hbb.take 8) hm h8 _ (by omega), Option.bind_some, if_pos (by omega), if_pos ⟨h0, h1⟩]
      unfold initL
      rw [mask_xor l0 h0]
    · rw [if_pos (by rw [bne_iff_ne]; omega), if_neg (fun h => h1 h.2)]
  · rw [if_neg (by omega), if_pos rfl, if_neg (fun h => h0 h.1)]
def spec_DukptInitial.f (l0 l1 : List Int) : Option (List Int) := if bytesB l0 = true ∧ bytesB l1 = true then some (initR l0 l1) else none
theorem spec_DukptInitial.calls (A0 : Option Addr) (c0 : Nat) (l0 : List Int) (A1 : Option Addr) (c1 : Nat) (l1 : List Int) (r : List Int) (w : World) (hr0 : Kd.C (Kd.int .u8) w A0 l0.length l0) (hc0 : l0.length ≤ c0) (hr1 : Kd.C (Kd.int .u8) w A1 l1.length l1) (hc1 : l1.length ≤ c1) (h : spec_DukptInitial.f l0 l1 = some r) :
    Calls Tryd.prog 27 #[.slice A0 l0.length c0, .slice A1 l1.length c1] w fun e w' => ∃ v0_ : Value, e = .returned (v0_) ∧ Kd.R (Kd.int .u8) 5 w' w.heap.size (fun _ => True) v0_ r ∧ Below w.heap.size w w' := by
  obtain ⟨⟨hb0, hb1⟩, rfl⟩ := of_ite h
  exact P.spec_DukptInitial.calls 2 A0 c0 l0 A1 c1 l1 _ w hr0 hc0 hr1 hc1 (spec_DukptInitial_at l0 l1 (bytesB_of hb0) (bytesB_of hb1) 0)
def impl_DukptInitial.f (l0 l1 : List Int) : Option (List Int) := if bytesB l0 = true ∧ bytesB l1 = true then some (initR l0 l1) else none
theorem impl_DukptInitial.calls (A0 : Option Addr) (c0 : Nat) (l0 : List Int) (A1 : Option Addr) (c1 : Nat) (l1 : List Int) (r : List Int) (w : World) (hr0 : Kd.C (Kd.int .u8) w A0 l0.length l0) (hc0 : l0.length ≤ c0) (hr1 : Kd.C (Kd.int .u8) w A1 l1.length l1) (hc1 : l1.length ≤ c1) (h : impl_DukptInitial.f l0 l1 = some r) (ht : Tab8 w) :
    Calls Tryd.prog 28 #[.slice A0 l0.length c0, .slice A1 l1.length c1] w fun e w' => ∃ v0_ : Value, e = .returned (v0_) ∧ Kd.R (Kd.int .u8) 5 w' w.heap.size (fun _ => True) v0_ r ∧ Below w.heap.size w w' := by
  obtain ⟨⟨hb0, hb1⟩, rfl⟩ := of_ite h
  unfold initR
  by_cases hg : l0.length = 16 ∧ l1.length = 10
  · rw [if_pos hg]
    exact impl_DukptInitial.calls16 A0 c0 l0 A1 c1 l1 w hr0 hc0 hr1 hc1 hg.1 (bytesB_of hb0) hg.2 (bytesB_of hb1) ht
  · rw [if_neg hg]
    exact impl_DukptInitial.calls0 A0 c0 _ A1 c1 _ w hg
end Go.Proofs.YtbjlpdfhjapbkaaDoor
