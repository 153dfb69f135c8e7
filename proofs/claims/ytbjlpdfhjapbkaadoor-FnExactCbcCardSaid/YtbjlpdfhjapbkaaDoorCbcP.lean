/- The contracts of spec.Cbc and impl.Cbc in the print's shape. Conditions stand in the functions '.f'. -/
import Derived.Test.YtbjlpdfhjapbkaaDoorPC
import Derived.Test.YtbjlpdfhjapbkaaDoorCbc
namespace Go.Proofs.YtbjlpdfhjapbkaaDoor
open Go.RowKit Go.Proofs.YtbjlpdfhjapbkaaDoorW.PrintWords Go.Proofs.YtbjlpdfhjapbkaaDoorW.PrintLast Go.Proofs.YtbjlpdfhjapbkaaDoorW.PrintMore Go.Proofs.YtbjlpdfhjapbkaaDoor.D
open Go.Proofs.YtbjlpdfhjapbkaaDoor.B (xorL xorL_length)
set_option linter.unusedVariables false

theorem xor_comm_byte (x y : Int) (hx : 0 ≤ x ∧ x ≤ 255) (hy : 0 ≤ y ∧ y ≤ 255) : Go.bits .xor .u8 x y = Go.bits .xor .u8 y x := by
  obtain ⟨⟨n, rfl⟩, h1⟩ : (∃ n : Nat, x = n) ∧ x ≤ 255 := ⟨⟨x.toNat, by omega⟩, hx.2⟩
  obtain ⟨⟨m, rfl⟩, h2⟩ : (∃ n : Nat, y = n) ∧ y ≤ 255 := ⟨⟨y.toNat, by omega⟩, hy.2⟩
  have h := (List.all_eq_true.1 (show ((List.range 256).all fun i => (List.range 256).all fun j => decide (Go.bits .xor .u8 (i : Int) (j : Int) = Go.bits .xor .u8 (j : Int) (i : Int))) = true by decide +kernel)) n (List.mem_range.2 (by omega))
  exact of_decide_eq_true ((List.all_eq_true.1 h) m (List.mem_range.2 (by omega)))
theorem xorL_comm : ∀ (a b : List Int), Bytes a → Bytes b → xorL a b = xorL b a
  | [], [], _, _ => rfl
  | [], _ :: _, _, _ => rfl
  | _ :: _, [], _, _ => rfl
  | x :: a, y :: b, ha, hb => by
    have e : ∀ (p q : Int) (s t : List Int), xorL (p :: s) (q :: t) = Go.bits .xor .u8 p q :: xorL s t := fun _ _ _ _ => rfl
    rw [e, e, xor_comm_byte x y (ha x (List.mem_cons_self ..)) (hb y (List.mem_cons_self ..)), xorL_comm a b (fun q hq => ha q (List.mem_cons_of_mem _ hq)) (fun q hq => hb q (List.mem_cons_of_mem _ hq))]
theorem spec_l1Xor_one (a b : List Int) (h : a.length ≤ b.length) (h2 : a.length ≤ 1048576) : spec_l1Xor.f a b = some (xorL a b) := by rw [spec_l1Xor.f, if_pos ⟨h, h2⟩]
theorem spec_Tdea_at (l0 l1 : List Int) (a2 : Bool) (hb0 : Bytes l0) (hb1 : Bytes l1) (h0 : l0.length = 16) (h1 : l1.length = 8) (k : Nat) (hk : 1 ≤ k) : P.spec_Tdea.f k l0 l1 a2 = some (tdeaL (l0.take 8) (l0.drop 8) l1 a2) := by
  have h := spec_Tdea_eq l0 l1 a2 hb0 hb1
  rw [if_pos ⟨h0, h1⟩] at h
  exact at_rounds (fun k => P.spec_Tdea.mono l0 l1 a2 k) hk h
theorem cbc_step (k : Nat) (x0 x2 x9 x10 : List Int) (x3 : Bool) (i : Nat) (hi : 8 * i + 8 ≤ x2.length) (hm : x2.length ≤ 65536) :
    P.spec_Cbc.l0 (k + 1) x0 x2 x3 x9 x10 ((8 * i : Nat) : Int) = (if x3 = true then ((P.spec_Tdea.f k x0 ((x2.drop (8 * i)).take 8) true).bind fun t399 => ((spec_l1Xor.f t399 x10).bind fun t402 => (if x9.length + t402.length < 140737488355328 then (P.spec_Cbc.l0 k x0 x2 x3 (x9 ++ t402) ((x2.drop (8 * i)).take 8) ((8 * (i + 1) : Nat) : Int)) else (none)))) else ((spec_l1Xor.f ((x2.drop (8 * i)).take 8) x10).bind fun t408 => ((P.spec_Tdea.f k x0 t408 false).bind fun t411 => (if x9.length + t411.length < 140737488355328 then (P.spec_Cbc.l0 k x0 x2 x3 (x9 ++ t411) t411 ((8 * (i + 1) : Nat) : Int)) else (none))))) := by
  have e : P.spec_Cbc.l0 (k + 1) x0 x2 x3 x9 x10 ((8 * i : Nat) : Int) = if ((8 * i : Nat) : Int) < (x2.length : Int) then (if 0 ≤ ((8 * i : Nat) : Int) then (if ((8 * i : Nat) : Int) ≤ (wrap64 (((8 * i : Nat) : Int) + 8)) then (if (wrap64 (((8 * i : Nat) : Int) + 8)) ≤ (x2.length : Int) then ((some ((x2.take ((wrap64 (((8 * i : Nat) : Int) + 8)) : Int).toNat).drop (((8 * i : Nat) : Int) : Int).toNat : List Int)).bind fun y394 => (if x3 = true then ((P.spec_Tdea.f k x0 y394 true).bind fun t399 => ((spec_l1Xor.f t399 x10).bind fun t402 => (if x9.length + t402.length < 140737488355328 then (P.spec_Cbc.l0 k x0 x2 x3 (x9 ++ t402) y394 (wrap64 (((8 * i : Nat) : Int) + 8))) else (none)))) else ((spec_l1Xor.f y394 x10).bind fun t408 => ((P.spec_Tdea.f k x0 t408 false).bind fun t411 => (if x9.length + t411.length < 140737488355328 then (P.spec_Cbc.l0 k x0 x2 x3 (x9 ++ t411) t411 (wrap64 (((8 * i : Nat) : Int) + 8))) else (none)))))) else (none)) else (none)) else (none)) else (some x9) := rfl
  have hw : wrap64 (((8 * i : Nat) : Int) + 8) = ((8 * (i + 1) : Nat) : Int) := by rw [B.wrap64_in (by omega)]; omega
  have hp : (x2.take (8 * (i + 1))).drop (8 * i) = (x2.drop (8 * i)).take 8 := by rw [List.drop_take]; congr 1; omega
  rw [e, hw, if_pos (by omega), if_pos (by omega), if_pos (by omega), if_pos (by omega), Int.toNat_natCast, Int.toNat_natCast, hp, Option.bind_some]
theorem cbc_stop (k : Nat) (x0 x2 x9 x10 : List Int) (x3 : Bool) (x11 : Int) (h : ¬ x11 < (x2.length : Int)) : P.spec_Cbc.l0 (k + 1) x0 x2 x3 x9 x10 x11 = some x9 := by
  show (if x11 < (x2.length : Int) then _ else some x9) = some x9
  rw [if_neg h]
theorem cbc_dec (x0 x2 iv : List Int) (h0 : x0.length = 16) (hb0 : Bytes x0) (hb2 : Bytes x2) (hm : x2.length ≤ 4096) (hiv : iv.length = 8) (hivb : Bytes iv) : ∀ (n i : Nat), 8 * (i + n) = x2.length → ∀ k, n + 1 < k →
    P.spec_Cbc.l0 k x0 x2 true (deS (fun b => tdeaL (x0.take 8) (x0.drop 8) b true) iv x2 i).2 (deS (fun b => tdeaL (x0.take 8) (x0.drop 8) b true) iv x2 i).1 ((8 * i : Nat) : Int) = some (deS (fun b => tdeaL (x0.take 8) (x0.drop 8) b true) iv x2 (i + n)).2
  | 0, i, h, k + 1, _ => by
    rw [cbc_stop _ _ _ _ _ _ _ (by omega)]
    rfl
  | n + 1, i, h, k + 1, hk => by
    obtain ⟨g1, g2, g3⟩ := deS_good (fun b => tdeaL (x0.take 8) (x0.drop 8) b true) (fun b h => ⟨tdeaL_length _ _ _ _ h, tdeaL_bytes _ _ _ _ h⟩) iv x2 hiv hivb hb2 i (by omega)
    have hpl : ((x2.drop (8 * i)).take 8).length = 8 := by rw [List.length_take, List.length_drop]; omega
    have hpb : Bytes ((x2.drop (8 * i)).take 8) := (hb2.drop _).take _
    have htl := tdeaL_length (x0.take 8) (x0.drop 8) _ true hpl
    have hxl : (xorL (tdeaL (x0.take 8) (x0.drop 8) ((x2.drop (8 * i)).take 8) true) (deS (fun b => tdeaL (x0.take 8) (x0.drop 8) b true) iv x2 i).1).length = 8 := by rw [xorL_length _ _ (by omega), htl]
    rw [cbc_step _ _ _ _ _ _ _ (by omega) (by omega), if_pos rfl, spec_Tdea_at _ _ _ hb0 hpb h0 hpl k (by omega), Option.bind_some, spec_l1Xor_one _ _ (by omega) (by omega), Option.bind_some, if_pos (by omega)]
    have := cbc_dec x0 x2 iv h0 hb0 hb2 hm hiv hivb n (i + 1) (by omega) k (by omega)
    rw [show i + 1 + n = i + (n + 1) by omega] at this
    exact this
theorem cbc_enc (x0 x2 iv : List Int) (h0 : x0.length = 16) (hb0 : Bytes x0) (hb2 : Bytes x2) (hm : x2.length ≤ 4096) (hiv : iv.length = 8) (hivb : Bytes iv) : ∀ (n i : Nat), 8 * (i + n) = x2.length → ∀ k, n + 1 < k →
    P.spec_Cbc.l0 k x0 x2 false (chS (fun b => tdeaL (x0.take 8) (x0.drop 8) b false) iv x2 i).2 (chS (fun b => tdeaL (x0.take 8) (x0.drop 8) b false) iv x2 i).1 ((8 * i : Nat) : Int) = some (chS (fun b => tdeaL (x0.take 8) (x0.drop 8) b false) iv x2 (i + n)).2
  | 0, i, h, k + 1, _ => by
    rw [cbc_stop _ _ _ _ _ _ _ (by omega)]
    rfl
  | n + 1, i, h, k + 1, hk => by
    obtain ⟨g1, g2, g3⟩ := chS_good (fun b => tdeaL (x0.take 8) (x0.drop 8) b false) (fun b h => ⟨tdeaL_length _ _ _ _ h, tdeaL_bytes _ _ _ _ h⟩) iv x2 hiv hivb i (by omega)
    have hpl : ((x2.drop (8 * i)).take 8).length = 8 := by rw [List.length_take, List.length_drop]; omega
    have hpb : Bytes ((x2.drop (8 * i)).take 8) := (hb2.drop _).take _
    have hxl : (xorL (chS (fun b => tdeaL (x0.take 8) (x0.drop 8) b false) iv x2 i).1 ((x2.drop (8 * i)).take 8)).length = 8 := by rw [xorL_length _ _ (by omega), g1]
    have htl := tdeaL_length (x0.take 8) (x0.drop 8) _ false hxl
    rw [cbc_step _ _ _ _ _ _ _ (by omega) (by omega), if_neg (by simp), spec_l1Xor_one _ _ (by omega) (by omega), Option.bind_some, xorL_comm _ _ hpb g2, spec_Tdea_at _ _ _ hb0 (xorL_bytes _ _ g2 hpb) h0 hxl k (by omega), Option.bind_some, if_pos (by omega)]
    have := cbc_enc x0 x2 iv h0 hb0 hb2 hm hiv hivb n (i + 1) (by omega) k (by omega)
    rw [show i + 1 + n = i + (n + 1) by omega] at this
    exact this
def cbcR (l0 l1 l2 : List Int) (a3 : Bool) : List Int := if l0.length = 16 ∧ l1.length = 8 ∧ l2.length % 8 = 0 ∧ l2.length ≤ 4096 then cbcL l0 l1 l2 a3 else []
theorem spec_Cbc_eq (l0 l1 l2 : List Int) (a3 : Bool) (hb0 : Bytes l0) (hb1 : Bytes l1) (hb2 : Bytes l2) : P.spec_Cbc.f 700 l0 l1 l2 a3 = some (cbcR l0 l1 l2 a3) := by
  have e : ∀ x, P.spec_Cbc.j0 700 l0 l1 l2 a3 x = if x = true then (some ([] : List Int)) else (P.spec_Cbc.l0 699 l0 l2 a3 ([] : List Int) l1 0) := fun _ => rfl
  unfold P.spec_Cbc.f cbcR
  rw [e, e]
  by_cases h0 : l0.length = 16
  · rw [if_pos (by omega)]
    by_cases h1 : l1.length = 8
    · rw [if_pos (by omega)]
      by_cases h2 : l2.length % 8 = 0
      · rw [if_pos (by omega)]
        by_cases h3 : l2.length ≤ 4096
        · rw [if_neg (by simp; omega), if_pos ⟨h0, h1, h2, h3⟩]
          cases a3
          · have := cbc_enc l0 l2 l1 h0 hb0 hb2 h3 h1 hb1 (l2.length / 8) 0 (by omega) 699 (by omega)
            rw [Nat.zero_add] at this
            exact this
          · have := cbc_dec l0 l2 l1 h0 hb0 hb2 h3 h1 hb1 (l2.length / 8) 0 (by omega) 699 (by omega)
            rw [Nat.zero_add] at this
            exact this
        · rw [if_pos (by simp; omega), if_neg (fun h => h3 h.2.2.2)]
      · rw [if_neg (by omega), if_pos rfl, if_neg (fun h => h2 h.2.2.1)]
    · rw [if_neg (by omega), if_pos rfl, if_neg (fun h => h1 h.2.1)]
  · rw [if_neg (by omega), if_pos rfl, if_neg (fun h => h0 h.1)]
theorem cbcR_length (l0 l1 l2 : List Int) (a3 : Bool) (hb1 : Bytes l1) (hb2 : Bytes l2) : (cbcR l0 l1 l2 a3).length ≤ 4096 := by
  unfold cbcR
  split
  · rename_i h
    unfold cbcL
    split
    · rw [(deS_good (fun b => tdeaL (l0.take 8) (l0.drop 8) b true) (fun b h => ⟨tdeaL_length _ _ _ _ h, tdeaL_bytes _ _ _ _ h⟩) l1 l2 h.2.1 hb1 hb2 (l2.length / 8) (by omega)).2.2]; omega
    · unfold chainL
      rw [(chS_good (fun b => tdeaL (l0.take 8) (l0.drop 8) b false) (fun b h => ⟨tdeaL_length _ _ _ _ h, tdeaL_bytes _ _ _ _ h⟩) l1 l2 h.2.1 hb1 (l2.length / 8) (by omega)).2.2]; omega
  · simp
def spec_Cbc.f (l0 l1 l2 : List Int) (a3 : Bool) : Option (List Int) := if bytesB l0 = true ∧ bytesB l1 = true ∧ bytesB l2 = true then some (cbcR l0 l1 l2 a3) else none
theorem spec_Cbc.calls (A0 : Option Addr) (c0 : Nat) (l0 : List Int) (A1 : Option Addr) (c1 : Nat) (l1 : List Int) (A2 : Option Addr) (c2 : Nat) (l2 : List Int) (a3 : Bool) (r : List Int) (w : World) (hr0 : Kd.C (Kd.int .u8) w A0 l0.length l0) (hc0 : l0.length ≤ c0) (hr1 : Kd.C (Kd.int .u8) w A1 l1.length l1) (hc1 : l1.length ≤ c1) (hr2 : Kd.C (Kd.int .u8) w A2 l2.length l2) (hc2 : l2.length ≤ c2) (h : spec_Cbc.f l0 l1 l2 a3 = some r) :
    Calls Tryd.prog 29 #[.slice A0 l0.length c0, .slice A1 l1.length c1, .slice A2 l2.length c2, .bool a3] w fun e w' => ∃ v0_ : Value, e = .returned (v0_) ∧ Kd.R (Kd.int .u8) 5 w' w.heap.size (fun _ => True) v0_ r ∧ Below w.heap.size w w' := by
  obtain ⟨⟨hb0, hb1, hb2⟩, rfl⟩ := of_ite h
  refine (P.spec_Cbc.calls 700 A0 c0 l0 _ A1 c1 l1 _ A2 c2 l2 a3 _ w hr0 hc0 (Kd.V_mk hc1 (Kd.C_F (Kd.heap_int .u8) hr1)) (Kd.V_mk hc2 (Kd.C_F (Kd.heap_int .u8) hr2)) (spec_Cbc_eq l0 l1 l2 a3 (bytesB_of hb0) (bytesB_of hb1) (bytesB_of hb2))).mono ?_
  rintro e w' ⟨v, rfl, hR, hB⟩
  exact ⟨v, rfl, Kd.R_mono hR (fun _ _ => trivial), hB⟩
def impl_Cbc.f (l0 l1 l2 : List Int) (a3 : Bool) : Option (List Int) := if bytesB l0 = true ∧ bytesB l1 = true ∧ bytesB l2 = true then some (cbcR l0 l1 l2 a3) else none
theorem impl_Cbc.calls (A0 : Option Addr) (c0 : Nat) (l0 : List Int) (A1 : Option Addr) (c1 : Nat) (l1 : List Int) (A2 : Option Addr) (c2 : Nat) (l2 : List Int) (a3 : Bool) (r : List Int) (w : World) (hr0 : Kd.C (Kd.int .u8) w A0 l0.length l0) (hc0 : l0.length ≤ c0) (hr1 : Kd.C (Kd.int .u8) w A1 l1.length l1) (hc1 : l1.length ≤ c1) (hr2 : Kd.C (Kd.int .u8) w A2 l2.length l2) (hc2 : l2.length ≤ c2) (h : impl_Cbc.f l0 l1 l2 a3 = some r) (ht : Tab w) :
    Calls Tryd.prog 30 #[.slice A0 l0.length c0, .slice A1 l1.length c1, .slice A2 l2.length c2, .bool a3] w fun e w' => ∃ v0_ : Value, e = .returned (v0_) ∧ Kd.R (Kd.int .u8) 5 w' w.heap.size (fun _ => True) v0_ r ∧ Below w.heap.size w w' := by
  obtain ⟨⟨hb0, hb1, hb2⟩, rfl⟩ := of_ite h
  unfold cbcR
  by_cases hg : l0.length = 16 ∧ l1.length = 8 ∧ l2.length % 8 = 0 ∧ l2.length ≤ 4096
  · rw [if_pos hg]
    cases a3
    · exact impl_Cbc.callsE A0 c0 l0 A1 c1 l1 A2 c2 l2 w hr0 hc0 hr1 hc1 hr2 hc2 hg.1 (bytesB_of hb0) hg.2.1 (bytesB_of hb1) hg.2.2.1 hg.2.2.2 (bytesB_of hb2) ht
    · exact impl_Cbc.callsD A0 c0 l0 A1 c1 l1 A2 c2 l2 w hr0 hc0 hr1 hc1 hr2 hc2 hg.1 (bytesB_of hb0) hg.2.1 (bytesB_of hb1) hg.2.2.1 hg.2.2.2 (bytesB_of hb2) ht
  · rw [if_neg hg]
    exact impl_Cbc.calls0 A0 c0 _ A1 c1 _ A2 c2 _ a3 w hg
end Go.Proofs.YtbjlpdfhjapbkaaDoor
