/- The contracts of spec.RetailMac and impl.RetailMac in the print's shape. Conditions stand in the functions '.f'. -/
import Derived.Test.YtbjlpdfhjapbkaaDoorPM
import Derived.Test.YtbjlpdfhjapbkaaDoorMac
namespace Go.Proofs.YtbjlpdfhjapbkaaDoor
open Go.RowKit Go.Proofs.YtbjlpdfhjapbkaaDoorW.PrintWords Go.Proofs.YtbjlpdfhjapbkaaDoorW.PrintLast Go.Proofs.YtbjlpdfhjapbkaaDoorW.PrintMore Go.Proofs.YtbjlpdfhjapbkaaDoor.D
open Go.Proofs.YtbjlpdfhjapbkaaDoor.B (xorL xorL_length)
set_option linter.unusedVariables false

theorem spec_l1Xor_some (a b : List Int) (h : a.length ≤ b.length) (h2 : a.length ≤ 1048576) : spec_l1Xor.f a b = some (xorL a b) := by rw [spec_l1Xor.f, if_pos ⟨h, h2⟩]
theorem l2_loop (x0 x1 : List Int) (h0 : x0.length = 8) (hb0 : Bytes x0) (hb1 : Bytes x1) (hm : x1.length ≤ 65536) : ∀ (n i : Nat), 8 * (i + n) = x1.length → ∀ k, n < k → P.spec_l2Chain.l0 k x0 x1 (chS (fun b => desL x0 b false) zero8 x1 i).1 ((8 * i : Nat) : Int) = some (chS (fun b => desL x0 b false) zero8 x1 (i + n)).1
  | 0, i, h, k + 1, _ => by
    have e : ∀ x5 x6, P.spec_l2Chain.l0 (k + 1) x0 x1 x5 x6 = if x6 < (x1.length : Int) then (if 0 ≤ x6 then (if x6 ≤ (wrap64 (x6 + 8)) then (if (wrap64 (x6 + 8)) ≤ (x1.length : Int) then ((spec_l1Xor.f x5 ((x1.take ((wrap64 (x6 + 8)) : Int).toNat).drop (x6 : Int).toNat)).bind fun t267 => ((spec_Des.f x0 t267 false).bind fun t270 => (P.spec_l2Chain.l0 k x0 x1 t270 (wrap64 (x6 + 8))))) else (none)) else (none)) else (none)) else (some x5) := fun _ _ => rfl
    rw [e, if_neg (by omega)]
    rfl
  | n + 1, i, h, k + 1, hk => by
    have e : ∀ x5 x6, P.spec_l2Chain.l0 (k + 1) x0 x1 x5 x6 = if x6 < (x1.length : Int) then (if 0 ≤ x6 then (if x6 ≤ (wrap64 (x6 + 8)) then (if (wrap64 (x6 + 8)) ≤ (x1.length : Int) then ((spec_l1Xor.f x5 ((x1.take ((wrap64 (x6 + 8)) : Int).toNat).drop (x6 : Int).toNat)).bind fun t267 => ((spec_Des.f x0 t267 false).bind fun t270 => (P.spec_l2Chain.l0 k x0 x1 t270 (wrap64 (x6 + 8))))) else (none)) else (none)) else (none)) else (some x5) := fun _ _ => rfl
    have hw : wrap64 (((8 * i : Nat) : Int) + 8) = ((8 * (i + 1) : Nat) : Int) := by rw [B.wrap64_in (by omega)]; omega
    obtain ⟨g1, g2, _⟩ := chS_good (fun b => desL x0 b false) (fun b h => ⟨desL_length _ _ _ h, desL_bytes _ _ _ h⟩) zero8 x1 zero8_length zero8_bytes i (by omega)
    have hp : (x1.take (8 * (i + 1))).drop (8 * i) = (x1.drop (8 * i)).take 8 := by rw [List.drop_take]; congr 1; omega
    have hpl : ((x1.drop (8 * i)).take 8).length = 8 := by rw [List.length_take, List.length_drop]; omega
    have hxl : (xorL (chS (fun b => desL x0 b false) zero8 x1 i).1 ((x1.drop (8 * i)).take 8)).length = 8 := by rw [xorL_length _ _ (by omega), g1]
    rw [e, hw, if_pos (by omega), if_pos (by omega), if_pos (by omega), if_pos (by omega), Int.toNat_natCast, Int.toNat_natCast, hp, spec_l1Xor_some _ _ (by omega) (by omega), Option.bind_some,
      spec_Des_some _ _ _ hb0 (xorL_bytes _ _ g2 ((hb1.drop _).take _)) h0 hxl, Option.bind_some]
    have := l2_loop x0 x1 h0 hb0 hb1 hm n (i + 1) (by omega) k (by omega)
    rw [show i + 1 + n = i + (n + 1) by omega] at this
    exact this
theorem spec_l2Chain_eq (x0 x1 : List Int) (h0 : x0.length = 8) (hb0 : Bytes x0) (hb1 : Bytes x1) (h8 : x1.length % 8 = 0) (hm : x1.length ≤ 65536) (k : Nat) (hk : x1.length / 8 < k) :
    P.spec_l2Chain.f k x0 x1 = some (chS (fun b => desL x0 b false) zero8 x1 (x1.length / 8)).1 := by
  unfold P.spec_l2Chain.f
  rw [if_pos (by omega)]
  have := l2_loop x0 x1 h0 hb0 hb1 hm (x1.length / 8) 0 (by omega) k hk
  rw [Nat.zero_add] at this
  exact this
theorem padL_step (l : List Int) (h : l.length = 0 ∨ l.length % 8 ≠ 0) : padL (l ++ [0]) = padL l ∧ padN (l ++ [0]).length + 1 = padN l.length := by
  have hn : padN (l ++ [0]).length + 1 = padN l.length := by
    rw [List.length_append, List.length_singleton]
    unfold padN
    rw [if_neg (by omega)]
    split <;> omega
  refine ⟨?_, hn⟩
  unfold padL
  rw [← hn, List.replicate_succ, List.append_assoc]
  rfl
theorem padL_stop (l : List Int) (h : l.length ≠ 0) (h8 : l.length % 8 = 0) : padL l = l := by
  have : padN l.length = 0 := by unfold padN; rw [if_neg h]; omega
  unfold padL
  rw [this]
  exact List.append_nil l
theorem mac_loop (x0 : List Int) (h0 : x0.length = 16) (hb0 : Bytes x0) : ∀ (n : Nat) (x5 : List Int), padN x5.length = n → Bytes x5 → x5.length + n ≤ 4200 → ∀ k, n + 600 < k →
    P.spec_RetailMac.l0 k x0 x5 = some (desL (x0.take 8) (desL (x0.drop 8) (chS (fun b => desL (x0.take 8) b false) zero8 (padL x5) ((padL x5).length / 8)).1 true) false)
  | n, x5, hn, hb5, hl, k + 1, hk => by
    have e : P.spec_RetailMac.l0 (k + 1) x0 x5 = if (x5.length : Int) = 0 then (if x5.length < 140737488355328 then (P.spec_RetailMac.l0 k x0 (x5 ++ [0])) else (none)) else (if ((x5.length : Int) % 8) = 0 then (if 8 ≤ (x0.length : Int) then ((P.spec_l2Chain.f k (x0.take 8) x5).bind fun t282 => ((spec_Des.f (x0.drop 8) t282 true).bind fun t285 => ((spec_Des.f (x0.take 8) t285 false).bind fun t288 => (some t288)))) else (none)) else (if x5.length < 140737488355328 then (P.spec_RetailMac.l0 k x0 (x5 ++ [0])) else (none))) := rfl
    by_cases hgo : x5.length = 0 ∨ x5.length % 8 ≠ 0
    · obtain ⟨p1, p2⟩ := padL_step x5 hgo
      have hb' : Bytes (x5 ++ [0]) := fun x hx => by
        rcases List.mem_append.1 hx with h1 | h1
        · exact hb5 x h1
        · rw [List.mem_singleton.1 h1]; omega
      obtain ⟨n', rfl⟩ : ∃ n', n = n' + 1 := ⟨n - 1, by omega⟩
      have := mac_loop x0 h0 hb0 n' (x5 ++ [0]) (by omega) hb' (by rw [List.length_append, List.length_singleton]; omega) k (by omega)
      rw [p1] at this
      rw [e]
      by_cases hz : x5.length = 0
      · rw [if_pos (by omega), if_pos (by omega), this]
      · rw [if_neg (by omega), if_neg (by omega), if_pos (by omega), this]
    · have hz : x5.length ≠ 0 ∧ x5.length % 8 = 0 := by omega
      have ht : (x0.take 8).length = 8 := by rw [List.length_take]; omega
      have hd : (x0.drop 8).length = 8 := by rw [List.length_drop]; omega
      have hc := chS_good (fun b => desL (x0.take 8) b false) (fun b h => ⟨desL_length _ _ _ h, desL_bytes _ _ _ h⟩) zero8 x5 zero8_length zero8_bytes (x5.length / 8) (by omega)
      rw [e, if_neg (by omega), if_pos (by omega), if_pos (by omega), padL_stop x5 hz.1 hz.2, spec_l2Chain_eq _ _ ht (hb0.take 8) hb5 hz.2 (by omega) k (by omega), Option.bind_some,
        spec_Des_some _ _ _ (hb0.drop 8) hc.2.1 hd hc.1, Option.bind_some, spec_Des_some _ _ _ (hb0.take 8) (desL_bytes _ _ _ hc.1) ht (desL_length _ _ _ hc.1), Option.bind_some]
theorem spec_RetailMac_eq (l0 l1 : List Int) (hb0 : Bytes l0) (hb1 : Bytes l1) : P.spec_RetailMac.f 700 l0 l1 = some (if l0.length = 16 ∧ l1.length ≤ 4096 then macL l0 l1 else []) := by
  have e : ∀ x, P.spec_RetailMac.j0 700 l0 l1 x = if x = true then (some ([] : List Int)) else ((spec_l1Bytes.f l1).bind fun t273 => (P.spec_RetailMac.l0 699 l0 t273)) := fun _ => rfl
  unfold P.spec_RetailMac.f
  rw [e, e]
  by_cases h0 : l0.length = 16
  · rw [if_pos (by omega)]
    by_cases h1 : l1.length ≤ 4096
    · have hp := padN_le l1.length
      rw [if_neg (by simp; omega), spec_l1Bytes.f, if_pos (by omega), Option.bind_some, mac_loop l0 h0 hb0 _ l1 rfl hb1 (by omega) 699 (by omega), if_pos ⟨h0, h1⟩]
      rfl
    · rw [if_pos (by simp; omega), if_neg (fun h => h1 h.2)]
  · rw [if_neg (by omega), if_pos rfl, if_neg (fun h => h0 h.1)]
def spec_RetailMac.f (l0 l1 : List Int) : Option (List Int) := if bytesB l0 = true ∧ bytesB l1 = true then some (if l0.length = 16 ∧ l1.length ≤ 4096 then macL l0 l1 else []) else none
theorem spec_RetailMac.calls (A0 : Option Addr) (c0 : Nat) (l0 : List Int) (A1 : Option Addr) (c1 : Nat) (l1 : List Int) (r : List Int) (w : World) (hr0 : Kd.C (Kd.int .u8) w A0 l0.length l0) (hc0 : l0.length ≤ c0) (hr1 : Kd.C (Kd.int .u8) w A1 l1.length l1) (hc1 : l1.length ≤ c1) (h : spec_RetailMac.f l0 l1 = some r) :
    Calls Tryd.prog 26 #[.slice A0 l0.length c0, .slice A1 l1.length c1] w fun e w' => ∃ v0_ : Value, e = .returned (v0_) ∧ Kd.R (Kd.int .u8) 5 w' w.heap.size (fun _ => True) v0_ r ∧ Below w.heap.size w w' := by
  obtain ⟨⟨hb0, hb1⟩, rfl⟩ := of_ite h
  exact P.spec_RetailMac.calls 700 A0 c0 l0 A1 c1 l1 _ w hr0 hc0 hr1 hc1 (spec_RetailMac_eq l0 l1 (bytesB_of hb0) (bytesB_of hb1))
namespace LMac8
def impl_RetailMac.f (l0 l1 : List Int) : Option (List Int) := if (bytesB l0 = true ∧ bytesB l1 = true) ∧ l0.length = 16 ∧ l1.length ≤ 4096 then some (macL l0 l1) else none
theorem impl_RetailMac.calls (A0 : Option Addr) (c0 : Nat) (l0 : List Int) (A1 : Option Addr) (c1 : Nat) (l1 : List Int) (r : List Int) (w : World) (hr0 : Kd.C (Kd.int .u8) w A0 l0.length l0) (hc0 : l0.length ≤ c0) (hr1 : Kd.C (Kd.int .u8) w A1 l1.length l1) (hc1 : l1.length ≤ c1) (h : impl_RetailMac.f l0 l1 = some r) (ht : Tab w) :
    Calls Tryd.prog 17 #[.slice A0 l0.length c0, .slice A1 l1.length c1] w fun e w' => ∃ v0_ : Value, e = .returned (v0_) ∧ Kd.R (Kd.int .u8) 38 w' w.heap.size (fun _ => True) v0_ r ∧ Below w.heap.size w w' := by
  obtain ⟨⟨⟨hb0, hb1⟩, hl0, hl1⟩, rfl⟩ := of_ite h
  exact impl_RetailMac.calls8 A0 c0 l0 A1 c1 l1 w hr0 hc0 hr1 hc1 hl0 (bytesB_of hb0) hl1 (bytesB_of hb1) ht
end LMac8
namespace LMac0
def impl_RetailMac.f (l0 l1 : List Int) : Option (List Int) := if ¬ (l0.length = 16 ∧ l1.length ≤ 4096) then some [] else none
theorem impl_RetailMac.calls (A0 : Option Addr) (c0 : Nat) (l0 : List Int) (A1 : Option Addr) (c1 : Nat) (l1 : List Int) (r : List Int) (w : World) (hr0 : Kd.C (Kd.int .u8) w A0 l0.length l0) (hc0 : l0.length ≤ c0) (hr1 : Kd.C (Kd.int .u8) w A1 l1.length l1) (hc1 : l1.length ≤ c1) (h : impl_RetailMac.f l0 l1 = some r) :
    Calls Tryd.prog 17 #[.slice A0 l0.length c0, .slice A1 l1.length c1] w fun e w' => ∃ v0_ : Value, e = .returned (v0_) ∧ Kd.R (Kd.int .u8) 5 w' w.heap.size (fun _ => True) v0_ r ∧ Below w.heap.size w w' := by
  obtain ⟨hl, rfl⟩ := of_ite h
  exact impl_RetailMac.calls0 A0 c0 _ A1 c1 _ w hl
end LMac0
end Go.Proofs.YtbjlpdfhjapbkaaDoor
