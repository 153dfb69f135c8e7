/- Odd parity: what the program's OddParity computes; that it changes nothing in DES, triple DES and the MAC. Conditions: bytes. -/
import Derived.Test.YtbjlpdfhjapbkaaDoorMacP
import Derived.Test.YtbjlpdfhjapbkaaDoorB6
namespace Go.Proofs.YtbjlpdfhjapbkaaDoor.B
open Go.RowKit Go.Proofs.YtbjlpdfhjapbkaaDoorW.PrintWords Go.Proofs.YtbjlpdfhjapbkaaDoorW.PrintLast Go.Proofs.YtbjlpdfhjapbkaaDoorW.PrintMore
set_option linter.unusedVariables false
/-- The byte with its lowest bit set so that its ones are odd. -/
def oddB (b : Int) : Int := if (b / 2 % 2 + b / 4 % 2 + b / 8 % 2 + b / 16 % 2 + b / 32 % 2 + b / 64 % 2 + b / 128 % 2) % 2 = 0 then b / 2 * 2 + 1 else b / 2 * 2

theorem impl_byte : ∀ n : Fin 256, ∃ t, bits_OnesCount8.f (Go.bits .andNot .u8 (n.val : Int) 1) = some t ∧ (Int.tmod t 2 = 0 → Go.bits .or .u8 (Go.bits .andNot .u8 (n.val : Int) 1) 1 = oddB n.val) ∧ (¬ Int.tmod t 2 = 0 → Go.bits .andNot .u8 (n.val : Int) 1 = oddB n.val) := by
  have h : ∀ n : Fin 256, (match bits_OnesCount8.f (Go.bits .andNot .u8 (n.val : Int) 1) with | some t => (if Int.tmod t 2 = 0 then Go.bits .or .u8 (Go.bits .andNot .u8 (n.val : Int) 1) 1 else Go.bits .andNot .u8 (n.val : Int) 1) == oddB n.val | none => false) = true := by
    decide +kernel
  intro n
  have h' := h n
  split at h'
  · rename_i t ht
    refine ⟨t, ht, fun h0 => ?_, fun h0 => ?_⟩
    · rw [if_pos h0] at h'; exact beq_iff_eq.1 h'
    · rw [if_neg h0] at h'; exact beq_iff_eq.1 h'
  · cases h'

theorem impl_odd_loop (l : List Int) (hl : l.length ≤ 140737488355327) (hb : ∀ x ∈ l, 0 ≤ x ∧ x ≤ 255) (d : Nat) : ∀ (k i : Nat) (x3 : List Int), x3.length = i → i ≤ l.length → l.length - i = d → d < k →
    impl_OddParity.l0 k x3 l (l.length : Int) (i : Int) = some (x3 ++ (l.drop i).map oddB) := by
  induction d with
  | zero =>
    intro k i x3 h3 hi hd hk
    obtain ⟨k, rfl⟩ : ∃ m, k = m + 1 := ⟨k - 1, by omega⟩
    rw [impl_OddParity.l0, if_neg (by omega), List.drop_of_length_le (by omega)]
    simp
  | succ d ih =>
    intro k i x3 h3 hi hd hk
    obtain ⟨k, rfl⟩ : ∃ m, k = m + 1 := ⟨k - 1, by omega⟩
    have hlt : i < l.length := by omega
    obtain ⟨n, hn⟩ := fin_of (hb l[i] (List.getElem_mem hlt))
    have e1 : x3.length < 140737488355328 := by omega
    have e2 := ih k (i + 1) (x3 ++ [oddB n.val]) (by simp [h3]) (by omega) (by omega) (by omega)
    have e3 : (i : Int) < (l.length : Int) := by omega
    have e4 : 0 ≤ (i : Int) := by omega
    have e5 : i < 9223372036854775807 := by omega
    have hrd : rd l (i : Int) = (n.val : Int) := by rw [rd_nat, List.getD_eq_getElem?_getD, List.getElem?_eq_getElem hlt]; exact hn
    obtain ⟨t, ht, h1, h2⟩ := impl_byte n
    rw [impl_OddParity.l0, if_pos e3, if_pos e4, if_pos e3, hrd, ht, Option.bind_some, wrap64_succ e5, ← List.getElem_cons_drop hlt, List.map_cons, hn]
    by_cases h0 : Int.tmod t 2 = 0
    · have h3' := h1 h0
      rw [if_pos h0, if_pos e1, h3', e2, List.append_assoc, List.singleton_append]
    · have h3' := h2 h0
      rw [if_neg h0, if_pos e1, h3', e2, List.append_assoc, List.singleton_append]

/-- OddParity, plainly. -/
def oddL (l : List Int) : List Int := if l.length > 4096 then [] else l.map oddB
theorem impl_odd_eq (l : List Int) (hl : l.length ≤ 140737488355327) (hb : ∀ x ∈ l, 0 ≤ x ∧ x ≤ 255) (k : Nat) (hk : l.length < k) : impl_OddParity.f k l = some (oddL l) := by
  unfold impl_OddParity.f oddL
  rw [Option.bind_some]
  by_cases h : l.length > 4096
  · rw [if_pos (by omega), if_pos h]
  · rw [if_neg (by omega), if_neg h]
    simpa using impl_odd_loop l hl hb l.length k 0 [] rfl (by omega) (by omega) hk
end Go.Proofs.YtbjlpdfhjapbkaaDoor.B
namespace Go.Proofs.YtbjlpdfhjapbkaaDoor
open Go.RowKit Go.Proofs.YtbjlpdfhjapbkaaDoorW.PrintWords Go.Proofs.YtbjlpdfhjapbkaaDoorW.PrintLast Go.Proofs.YtbjlpdfhjapbkaaDoorW.PrintMore Go.Proofs.YtbjlpdfhjapbkaaDoor.D
open Go.Proofs.YtbjlpdfhjapbkaaDoor.B (xorL xorL_length oddB oddL fin_of)
set_option linter.unusedVariables false

theorem odd_fin : ∀ n : Fin 256, (0 ≤ oddB n.val ∧ oddB n.val ≤ 255) ∧ oddB (oddB n.val) = oddB n.val ∧ bits8 (oddB n.val) = [(n.val : Int) / 128 % 2, (n.val : Int) / 64 % 2, (n.val : Int) / 32 % 2, (n.val : Int) / 16 % 2, (n.val : Int) / 8 % 2, (n.val : Int) / 4 % 2, (n.val : Int) / 2 % 2, oddB n.val % 2] := by decide +kernel
theorem odd_bytes (l : List Int) (h : Bytes l) : Bytes (l.map oddB) := fun x hx => by
  obtain ⟨y, hy, rfl⟩ := List.mem_map.1 hx
  obtain ⟨n, rfl⟩ := fin_of (h y hy)
  exact (odd_fin n).1
theorem odd_twice (l : List Int) (h : Bytes l) : (l.map oddB).map oddB = l.map oddB := by
  rw [List.map_map]
  refine List.map_congr_left fun y hy => ?_
  obtain ⟨n, rfl⟩ := fin_of (h y hy)
  exact (odd_fin n).2.1
theorem odd_bits (y : Int) (h : 0 ≤ y ∧ y ≤ 255) : bits8 (oddB y) = [y / 128 % 2, y / 64 % 2, y / 32 % 2, y / 16 % 2, y / 8 % 2, y / 4 % 2, y / 2 % 2, oddB y % 2] := by
  obtain ⟨n, rfl⟩ := fin_of h
  exact (odd_fin n).2.2
theorem pick_odd (key : List Int) (h : key.length = 8) (hb : Bytes key) : pickB (bitsOf (key.map oddB)) tPC1 = pickB (bitsOf key) tPC1 := by
  obtain ⟨k0, k1, k2, k3, k4, k5, k6, k7, rfl⟩ := eight key h
  have a0 := odd_bits k0 (hb _ (by simp))
  have a1 := odd_bits k1 (hb _ (by simp))
  have a2 := odd_bits k2 (hb _ (by simp))
  have a3 := odd_bits k3 (hb _ (by simp))
  have a4 := odd_bits k4 (hb _ (by simp))
  have a5 := odd_bits k5 (hb _ (by simp))
  have a6 := odd_bits k6 (hb _ (by simp))
  have a7 := odd_bits k7 (hb _ (by simp))
  simp only [bitsOf, List.map_cons, List.map_nil, List.flatMap_cons, List.flatMap_nil, a0, a1, a2, a3, a4, a5, a6, a7]
  rfl
theorem desL_odd (key b : List Int) (d : Bool) (h : key.length = 8) (hb : Bytes key) : desL (key.map oddB) b d = desL key b d := by
  unfold desL keysB
  rw [pick_odd key h hb]
theorem tdeaL_odd (k1 k2 b : List Int) (d : Bool) (h1 : k1.length = 8) (hb1 : Bytes k1) (h2 : k2.length = 8) (hb2 : Bytes k2) : tdeaL (k1.map oddB) (k2.map oddB) b d = tdeaL k1 k2 b d := by
  unfold tdeaL
  rw [desL_odd _ _ _ h1 hb1, desL_odd _ _ _ h2 hb2, desL_odd _ _ _ h1 hb1]
theorem macL_odd (key l1 : List Int) (h : key.length = 16) (hb : Bytes key) : macL (key.map oddB) l1 = macL key l1 := by
  have h1 : (key.take 8).length = 8 := by rw [List.length_take]; omega
  have h2 : (key.drop 8).length = 8 := by rw [List.length_drop]; omega
  unfold macL macH
  rw [← List.map_take, ← List.map_drop]
  have e : (fun b => desL ((key.take 8).map oddB) b false) = fun b => desL (key.take 8) b false := funext fun b => desL_odd _ _ _ h1 (hb.take 8)
  rw [e, desL_odd _ _ _ h1 (hb.take 8), desL_odd _ _ _ h2 (hb.drop 8)]
theorem twice_des (k b : List Int) (h : k.length = 8) (hb : Bytes k) (h8 : b.length = 8) (hbb : Bytes b) : tdeaL k (k.map oddB) b false = desL k b false := by
  have e : desL k (desL k b false) (!false) = b := desL_undo k b false h8 hbb
  unfold tdeaL
  rw [desL_odd _ _ _ h hb, e]
namespace LPar
def impl_Des.f (l0 l1 : List Int) (a2 : Bool) : Option (List Int) := LDes8.impl_Des.f l0 l1 a2
theorem impl_Des.calls (A0 : Option Addr) (c0 : Nat) (l0 : List Int) (A1 : Option Addr) (c1 : Nat) (l1 : List Int) (a2 : Bool) (r : List Int) (w : World) (hr0 : Kd.C (Kd.int .u8) w A0 l0.length l0) (hc0 : l0.length ≤ c0) (hr1 : Kd.C (Kd.int .u8) w A1 l1.length l1) (hc1 : l1.length ≤ c1) (h : impl_Des.f l0 l1 a2 = some r) (ht : Tab w) :
    Calls Tryd.prog 15 #[.slice A0 l0.length c0, .slice A1 l1.length c1, .bool a2] w fun e w' => ∃ v0_ : Value, e = .returned (v0_) ∧ Kd.R (Kd.int .u8) 38 w' w.heap.size (fun _ => True) v0_ r ∧ Below w.heap.size w w' := LDes8.impl_Des.calls A0 c0 l0 A1 c1 l1 a2 r w hr0 hc0 hr1 hc1 h ht
def impl_Tdea.f (l0 l1 : List Int) (a2 : Bool) : Option (List Int) := LTdea8.impl_Tdea.f l0 l1 a2
theorem impl_Tdea.calls (A0 : Option Addr) (c0 : Nat) (l0 : List Int) (A1 : Option Addr) (c1 : Nat) (l1 : List Int) (a2 : Bool) (r : List Int) (w : World) (hr0 : Kd.C (Kd.int .u8) w A0 l0.length l0) (hc0 : l0.length ≤ c0) (hr1 : Kd.C (Kd.int .u8) w A1 l1.length l1) (hc1 : l1.length ≤ c1) (h : impl_Tdea.f l0 l1 a2 = some r) (ht : Tab w) :
    Calls Tryd.prog 16 #[.slice A0 l0.length c0, .slice A1 l1.length c1, .bool a2] w fun e w' => ∃ v0_ : Value, e = .returned (v0_) ∧ Kd.R (Kd.int .u8) 38 w' w.heap.size (fun _ => True) v0_ r ∧ Below w.heap.size w w' := LTdea8.impl_Tdea.calls A0 c0 l0 A1 c1 l1 a2 r w hr0 hc0 hr1 hc1 h ht
def impl_RetailMac.f (l0 l1 : List Int) : Option (List Int) := LMac8.impl_RetailMac.f l0 l1
theorem impl_RetailMac.calls (A0 : Option Addr) (c0 : Nat) (l0 : List Int) (A1 : Option Addr) (c1 : Nat) (l1 : List Int) (r : List Int) (w : World) (hr0 : Kd.C (Kd.int .u8) w A0 l0.length l0) (hc0 : l0.length ≤ c0) (hr1 : Kd.C (Kd.int .u8) w A1 l1.length l1) (hc1 : l1.length ≤ c1) (h : impl_RetailMac.f l0 l1 = some r) (ht : Tab w) :
    Calls Tryd.prog 17 #[.slice A0 l0.length c0, .slice A1 l1.length c1] w fun e w' => ∃ v0_ : Value, e = .returned (v0_) ∧ Kd.R (Kd.int .u8) 38 w' w.heap.size (fun _ => True) v0_ r ∧ Below w.heap.size w w' := LMac8.impl_RetailMac.calls A0 c0 l0 A1 c1 l1 r w hr0 hc0 hr1 hc1 h ht
def impl_OddParity.f (l0 : List Int) : Option (List Int) := if bytesB l0 = true ∧ l0.length ≤ 4096 then some (l0.map oddB) else none
theorem impl_OddParity.calls (A0 : Option Addr) (c0 : Nat) (l0 : List Int) (r : List Int) (w : World) (hr0 : Kd.C (Kd.int .u8) w A0 l0.length l0) (hc0 : l0.length ≤ c0) (h : impl_OddParity.f l0 = some r) :
    Calls Tryd.prog 13 #[.slice A0 l0.length c0] w fun e w' => ∃ v0_ : Value, e = .returned (v0_) ∧ Kd.R (Kd.int .u8) 5 w' w.heap.size (fun _ => True) v0_ r ∧ Below w.heap.size w w' := by
  obtain ⟨⟨hb, hl⟩, rfl⟩ := of_ite h
  have e : oddL l0 = l0.map oddB := by unfold oddL; rw [if_neg (by omega)]
  exact B.impl_OddParity.calls (l0.length + 1) A0 c0 l0 _ w hr0 hc0 (by rw [← e]; exact B.impl_odd_eq l0 (by omega) (bytesB_of hb) _ (Nat.lt_succ_self _))
end LPar
end Go.Proofs.YtbjlpdfhjapbkaaDoor
