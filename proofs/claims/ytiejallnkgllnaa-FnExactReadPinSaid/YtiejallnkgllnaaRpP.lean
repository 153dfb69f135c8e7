/- The contracts of impl.ReadPin and spec.l4Account in the print's shape: what they answer, plainly. Conditions stand in the functions '.f': bytes, texts below 2^30 bytes. -/
import Derived.Test.YtiejallnkgllnaaRp
namespace Go.Proofs.Ytiejallnkgllnaa
open Go.RowKit Go.Proofs.YtiejallnkgllnaaW.PrintWords Go.Proofs.YtiejallnkgllnaaW.PrintLast Go.Proofs.YtiejallnkgllnaaW.PrintMore Go.Proofs.Ytiejallnkgllnaa.D
open Go.Proofs.Ytiejallnkgllnaa.B (xorL xorL_length)
set_option linter.unusedVariables false
theorem str_bI (s : ByteArray) : strOfNums (bI s) = s := by
  unfold strOfNums bI
  rw [List.map_map]
  have h : s.data.toList.map ((fun n : Int => UInt8.ofNat n.toNat) ∘ fun b : UInt8 => (b.toNat : Int)) = s.data.toList := by
    conv => rhs; rw [← List.map_id s.data.toList]
    exact List.map_congr_left fun b _ => by simp
  rw [h]
theorem HexOf.eq {s : ByteArray} {ds : List Int} (h : HexOf s ds) : s = strOfNums (ds.map hexc) := by rw [← h.1, str_bI]
/-- The clear digits of a PIN block. -/
def rpD (l1 : List Int) (pan : ByteArray) : List Int := nibL (xorL l1 (outN (numH (accD pan)) 8))
def pinS (D : List Int) : ByteArray := strOfNums (((D.drop 2).take (nth D 1).toNat).map hexc)
/-- A PIN read: its code, its text. -/
def rpR (f : Int) (l1 : List Int) (pan : ByteArray) : Int × ByteArray :=
  if (f = 0 ∨ f = 3) ∧ digOk pan 13 19 = true ∧ l1.length = 8 ∧ rcOk f (rpD l1 pan) = true then (0, pinS (rpD l1 pan)) else (1, ⟨#[]⟩)
def impl_ReadPin.f (a0 : Int) (l1 : List Int) (a2 : ByteArray) : Option (Int × ByteArray) := if a2.size ≤ 1000000000 ∧ bytesB l1 = true then some (rpR a0 l1 a2) else none
theorem impl_ReadPin.calls (a0 : Int) (A1 : Option Addr) (c1 : Nat) (l1 : List Int) (a2 : ByteArray) (r1 : Int) (r2 : ByteArray) (w : World) (hr1 : Kd.C (Kd.int .u8) w A1 l1.length l1) (hc1 : l1.length ≤ c1) (h : impl_ReadPin.f a0 l1 a2 = some (r1, r2)) :
    Calls Try.prog 16 #[.int .i64 a0, .slice A1 l1.length c1, .string a2] w fun e w' => e = .returned (.agg #[.int .i64 r1, .string r2]) ∧ Below w.heap.size w w' := by
  obtain ⟨⟨hs, hb⟩, hr⟩ := ite_some h
  have hB := bytesB_of hb
  unfold rpR at hr
  by_cases hf : a0 = 0 ∨ a0 = 3
  · by_cases h2 : digOk a2 13 19 = true
    · by_cases h8 : l1.length = 8
      · have hg := impl_ReadPin.good a0 hf A1 l1 c1 a2 w (h8 ▸ hr1) (by omega) hB h2 (rpD l1 a2) rfl
        rw [h8]
        refine hg.mono fun e w' ⟨he, hw⟩ => ⟨?_, hw⟩
        unfold RPend at he
        by_cases hk : rcOk a0 (rpD l1 a2) = true
        · rw [if_pos hk] at he
          rw [if_pos ⟨hf, h2, h8, hk⟩] at hr
          obtain ⟨P, he, hp⟩ := he
          simp only [Prod.mk.injEq] at hr
          rw [he, ← hr.1, ← hr.2, hp.eq]
          rfl
        · rw [if_neg hk] at he
          rw [if_neg fun x => hk x.2.2.2] at hr
          simp only [Prod.mk.injEq] at hr
          rw [he, ← hr.1, ← hr.2]
      · rw [if_neg fun x => h8 x.2.2.1] at hr
        simp only [Prod.mk.injEq] at hr
        rw [← hr.1, ← hr.2]
        exact impl_ReadPin.bad2 a0 hf A1 l1.length c1 a2 w hs h2 h8
    · rw [if_neg fun x => h2 x.2.1] at hr
      simp only [Prod.mk.injEq] at hr
      rw [← hr.1, ← hr.2]
      exact impl_ReadPin.bad1 a0 hf A1 l1.length c1 a2 w hs (by simpa using h2)
  · rw [if_neg fun x => hf x.1] at hr
    simp only [Prod.mk.injEq] at hr
    rw [← hr.1, ← hr.2]
    exact impl_ReadPin.bad0 a0 A1 l1.length c1 a2 w (fun h => hf (.inl h)) (fun h => hf (.inr h))
def spec_l4Account.f (a0 : ByteArray) : Option (List Int) := if 13 ≤ a0.size ∧ a0.size ≤ 1000000000 then some (accS a0) else none
theorem spec_l4Account.calls (a0 : ByteArray) (r : List Int) (w : World) (h : spec_l4Account.f a0 = some r) :
    Calls Try.prog 46 #[.string a0] w fun e w' => ∃ v0_ : Value, e = .returned v0_ ∧ Kd.R (Kd.int .u8) 5 w' w.heap.size (fun _ => True) v0_ r ∧ Below w.heap.size w w' := by
  obtain ⟨⟨h1, h2⟩, rfl⟩ := ite_some h
  exact spec_l4Account.at a0 w h1 h2
end Go.Proofs.Ytiejallnkgllnaa
