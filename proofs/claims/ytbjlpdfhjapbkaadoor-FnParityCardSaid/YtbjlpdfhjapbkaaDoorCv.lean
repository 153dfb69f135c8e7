/- Contracts of impl.CheckValue and spec.CheckValue. Conditions: bytes; the tables lie there. -/
import Derived.Test.YtbjlpdfhjapbkaaDoorPTW
namespace Go.Proofs.YtbjlpdfhjapbkaaDoor
open Go.RowKit Go.Proofs.YtbjlpdfhjapbkaaDoorW.PrintWords Go.Proofs.YtbjlpdfhjapbkaaDoorW.PrintLast Go.Proofs.YtbjlpdfhjapbkaaDoorW.PrintMore Go.Proofs.YtbjlpdfhjapbkaaDoor.D
set_option linter.unusedVariables false

def zero8 : List Int := List.replicate 8 0
theorem zero8_length : zero8.length = 8 := rfl
theorem zero8_bytes : Bytes zero8 := fun x hx => by rw [(List.mem_replicate.1 hx).2]; omega
def cvL (l0 : List Int) : List Int := (tdeaL (l0.take 8) (l0.drop 8) zero8 false).take 3
set_option maxHeartbeats 4000000 in
theorem impl_CheckValue.calls8 (A0 : Option Addr) (c0 : Nat) (l0 : List Int) (w : World) (hr0 : Kd.C (Kd.int .u8) w A0 l0.length l0) (hc0 : l0.length ≤ c0) (h0 : l0.length = 16) (hb0 : Bytes l0) (ht : Tab w) :
    Calls Tryd.prog 25 #[.slice A0 l0.length c0] w fun e w' => ∃ v0_ : Value, e = .returned (v0_) ∧ Kd.R (Kd.int .u8) 38 w' w.heap.size (fun _ => True) v0_ (cvL l0) ∧ Below w.heap.size w w' := by
  have HT := Aside0.mk ht
  have HR0 := Aside0.mk hr0
  have HB := Aside0.mk (Below.refl w.heap.size w)
  have KT := Aside0.mk (fun (A : Option Addr) (c : Nat) (w1 : World) (hC0 : Kd.C (Kd.int .u8) w1 A0 l0.length l0) (hC : Kd.C (Kd.int .u8) w1 A zero8.length zero8) (hc : zero8.length ≤ c) (t1 : Tab w1) => impl_Tdea.calls8 A0 c0 l0 A c zero8 false w1 hC0 hc0 hC hc h0 hb0 zero8_length zero8_bytes t1)
  obtain ⟨zs, hzs⟩ : ∃ z, z = zero8 := ⟨_, rfl⟩
  have Nzs : Aside0 (zs = List.replicate 8 0) := ⟨hzs⟩
  have hE : cvL l0 = (tdeaL (l0.take 8) (l0.drop 8) zero8 false).take 3 := rfl
  obtain ⟨D, hD⟩ : ∃ D, D = tdeaL (l0.take 8) (l0.drop 8) zero8 false := ⟨_, rfl⟩
  have hDl : D.length = 8 := hD ▸ tdeaL_length _ _ _ _ zero8_length
  rw [← hD] at KT hE
  rw [← hzs] at KT
  rw [hE]
  clear hE hD hzs hr0 ht hb0
  obtain ⟨res, hres⟩ : ∃ r, r = D.take 3 := ⟨_, rfl⟩
  rw [← hres]
  have Nres := Aside0.mk hres
  clear hres
  have b1 : ((l0.length : Int) == 16) = true := beq_iff_eq.mpr (by omega)
  have b2 : ((l0.length : Int) != 16) = false := bne_eq_false_iff_eq.mpr (by omega)
  have q3 : decide (3 ≤ (D.length : Int)) = true := decide_eq_true (by omega)
  have HDL := Aside0.mk hDl
  clear h0 hDl
  go_enter Tryd.func25, Tryd.ntmps25
  go_wp2_with (first
    | ((with_reducible refine gate_dst (N := 8) rfl ?_); refine Kd.R_make (Kd.int .u8) _ 5 rfl (N := 8) rfl 22 _ _ rfl 8 rfl rfl Tryd.underlying22 (.int .u8 0) 1 info5 rfl (by decide) (by omega) 0 (ok := fun _ => True) (okp := fun _ => True) rfl (fun _ hk => hk) trivial (by omega) (by omega) (Below.refl _ _) (Nat.le_refl _) ?_; intro v240 w6 ho7 hb hg_ hnew_; clear hg_ hnew_; (first | rw [← Nzs.out] at ho7 | (simp only [Int.reduceToNat] at ho7; rw [← Nzs.out] at ho7)); have n1_ := Aside0.mk (below_step (by repeat (first | (with_reducible first | exact HB.out | apply below_alloc | apply pw_below_drewN | apply below_drew1) | exact HB.out)) hb); have HOZ := Aside0.mk ho7; clear HB; have HB := n1_; clear n1_ hb ho7; obtain ⟨Ao8, co8, eo8⟩ := Kd.R_slice HOZ.out; subst eo8)
    | (go_at_call 16; go_must (refine (KT.out _ _ _ ?s1 ?s2 ?s3 ?s4).mono ?_; (case s1 => exact Kd.C_below HR0.out HB.out); (case s2 => exact (Kd.R_reads' HOZ.out).2.2); (case s3 => exact (Kd.R_reads' HOZ.out).2.1); (case s4 => exact HT.out.below HB.out); rintro e w9 ⟨v243, rfl, ho0, hb⟩; have HO1 := Aside0.mk (Kd.R_lower ho0 (below_size HB.out)); have n1_ := Aside0.mk (below_step HB.out hb); clear HB; have HB := n1_; clear n1_ hb ho0; obtain ⟨Ao10, co10, eo10⟩ := Kd.R_slice HO1.out; subst eo10; have q11 : (3 : Int) ≤ ((D.length : Int) : Int) := (by have := HDL.out; omega); obtain ⟨i011, hi011, _, hsz11, _⟩ := info_parts info5; have hcut11 := cut_to (P := Tryd.prog) 22 5 .i64 Tryd.underlying22 hi011 Ao10 D.length co10 3 (by omega) q11 (Kd.R_reads' HO1.out).2.1; have hr11 := Kd.R_take (m := (3 : Int).toNat) HO1.out (by omega); have hy11 : res.length = (3 : Int).toNat := (by rw [Nres.out, List.length_take]; omega); replace hr11 : Kd.R (Kd.int .u8) _ _ _ _ (.slice Ao10 (3 : Int).toNat co10) (D.take 3) := hr11; rw [← Nres.out] at hr11; rw [← hy11] at hr11 hcut11; clear hy11 hi011 hsz11 HO1; have HO2 := Aside0.mk hr11; clear hr11; replace q11 := eq_true q11)))
  go_ret
  exact ⟨_, rfl, Kd.R_mono HO2.out (fun _ hk => trivial), HB.out⟩
set_option maxHeartbeats 1000000 in
theorem impl_CheckValue.calls0 (A0 : Option Addr) (c0 : Nat) (n0 : Nat) (w : World) (h : ¬ n0 = 16) :
    Calls Tryd.prog 25 #[.slice A0 n0 c0] w fun e w' => ∃ v0_ : Value, e = .returned (v0_) ∧ Kd.R (Kd.int .u8) 5 w' w.heap.size (fun _ => True) v0_ [] ∧ Below w.heap.size w w' := by
  have b0 : ((n0 : Int) != 16) = true := by rw [bne_iff_ne]; omega
  clear h
  go_enter Tryd.func25, Tryd.ntmps25
  go_wp2_with fail
  go_ret
  exact ⟨_, rfl, empty_R _ _ rfl, (Below.refl _ _).alloc (Nat.le_refl _) _⟩
theorem spec_CheckValue_eq (l0 : List Int) (hb0 : Bytes l0) : P.spec_CheckValue.f 1 l0 = some (if l0.length = 16 then cvL l0 else []) := by
  unfold P.spec_CheckValue.f
  by_cases h0 : l0.length = 16
  · have hz : (List.replicate 8 (0 : Int)) = zero8 := rfl
    have hl : (tdeaL (l0.take 8) (l0.drop 8) zero8 false).length = 8 := tdeaL_length _ _ _ _ zero8_length
    have hs : P.spec_Tdea.f 1 l0 zero8 false = some (tdeaL (l0.take 8) (l0.drop 8) zero8 false) := by rw [spec_Tdea_eq l0 zero8 false hb0 zero8_bytes, if_pos ⟨h0, zero8_length⟩]
    rw [if_pos (by omega), if_pos (by omega), hz, hs, Option.bind_some, if_pos (by omega), if_pos h0]
    rfl
  · rw [if_neg (by omega), if_neg h0]
def spec_CheckValue.f (l0 : List Int) : Option (List Int) := if bytesB l0 = true then some (if l0.length = 16 then cvL l0 else []) else none
theorem spec_CheckValue.calls (A0 : Option Addr) (c0 : Nat) (l0 : List Int) (r : List Int) (w : World) (hr0 : Kd.C (Kd.int .u8) w A0 l0.length l0) (hc0 : l0.length ≤ c0) (h : spec_CheckValue.f l0 = some r) :
    Calls Tryd.prog 24 #[.slice A0 l0.length c0] w fun e w' => ∃ v0_ : Value, e = .returned (v0_) ∧ Kd.R (Kd.int .u8) 5 w' w.heap.size (fun _ => True) v0_ r ∧ Below w.heap.size w w' := by
  obtain ⟨hb0, rfl⟩ := of_ite h
  exact P.spec_CheckValue.calls 1 A0 c0 l0 _ w hr0 hc0 (spec_CheckValue_eq l0 (bytesB_of hb0))
namespace LCv8
def impl_CheckValue.f (l0 : List Int) : Option (List Int) := if bytesB l0 = true ∧ l0.length = 16 then some (cvL l0) else none
theorem impl_CheckValue.calls (A0 : Option Addr) (c0 : Nat) (l0 : List Int) (r : List Int) (w : World) (hr0 : Kd.C (Kd.int .u8) w A0 l0.length l0) (hc0 : l0.length ≤ c0) (h : impl_CheckValue.f l0 = some r) (ht : Tab w) :
    Calls Tryd.prog 25 #[.slice A0 l0.length c0] w fun e w' => ∃ v0_ : Value, e = .returned (v0_) ∧ Kd.R (Kd.int .u8) 38 w' w.heap.size (fun _ => True) v0_ r ∧ Below w.heap.size w w' := by
  obtain ⟨⟨hb0, hl0⟩, rfl⟩ := of_ite h
  exact impl_CheckValue.calls8 A0 c0 l0 w hr0 hc0 hl0 (bytesB_of hb0) ht
end LCv8
namespace LCv0
def impl_CheckValue.f (l0 : List Int) : Option (List Int) := if ¬ l0.length = 16 then some [] else none
theorem impl_CheckValue.calls (A0 : Option Addr) (c0 : Nat) (l0 : List Int) (r : List Int) (w : World) (hr0 : Kd.C (Kd.int .u8) w A0 l0.length l0) (hc0 : l0.length ≤ c0) (h : impl_CheckValue.f l0 = some r) :
    Calls Tryd.prog 25 #[.slice A0 l0.length c0] w fun e w' => ∃ v0_ : Value, e = .returned (v0_) ∧ Kd.R (Kd.int .u8) 5 w' w.heap.size (fun _ => True) v0_ r ∧ Below w.heap.size w w' := by
  obtain ⟨hl, rfl⟩ := of_ite h
  exact impl_CheckValue.calls0 A0 c0 _ w hl
end LCv0
end Go.Proofs.YtbjlpdfhjapbkaaDoor
