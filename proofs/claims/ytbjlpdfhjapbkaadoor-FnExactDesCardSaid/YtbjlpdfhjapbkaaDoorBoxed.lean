/- Contract of impl.boxed: 48 bits through the boxes and the table. Conditions: the number is that of 48 bits; the tables lie there. -/
import Derived.Test.YtbjlpdfhjapbkaaDoorTab
import Derived.Deep.QuietTactic
import Derived.BigQuiet
namespace Go.Proofs.YtbjlpdfhjapbkaaDoor
open Go.RowKit Go.Proofs.YtbjlpdfhjapbkaaDoorW.PrintWords Go.Proofs.YtbjlpdfhjapbkaaDoorW.PrintLast Go.Proofs.YtbjlpdfhjapbkaaDoorW.PrintMore Go.Proofs.YtbjlpdfhjapbkaaDoor.D Go.Proofs.YtbjlpdfhjapbkaaDoor.B
set_option linter.unusedVariables false

theorem six_place : ∀ b0 b1 b2 b3 b4 b5 : Fin 2,
    16 * (Go.bits .or .u64 (Go.bits .and .u64 (num [(b0.val : Int), b1.val, b2.val, b3.val, b4.val, b5.val] / 16) 2) (Go.bits .and .u64 (num [(b0.val : Int), b1.val, b2.val, b3.val, b4.val, b5.val]) 1)) + Go.bits .and .u64 (num [(b0.val : Int), b1.val, b2.val, b3.val, b4.val, b5.val] / 2) 15 =
      ((b0.val : Int) * 2 + b5.val) * 16 + ((b1.val : Int) * 8 + b2.val * 4 + b3.val * 2 + b4.val) := by decide +kernel
theorem six_row : ∀ b0 b1 b2 b3 b4 b5 : Fin 2,
    Go.bits .or .u64 (Go.bits .and .u64 (num [(b0.val : Int), b1.val, b2.val, b3.val, b4.val, b5.val] / 16) 2) (Go.bits .and .u64 (num [(b0.val : Int), b1.val, b2.val, b3.val, b4.val, b5.val]) 1) = (b0.val : Int) * 2 + b5.val ∧
      Go.bits .and .u64 (num [(b0.val : Int), b1.val, b2.val, b3.val, b4.val, b5.val] / 2) 15 = ((b1.val : Int) * 8 + b2.val * 4 + b3.val * 2 + b4.val) := by decide +kernel
theorem bit_fin {x : Int} (h : x = 0 ∨ x = 1) : ∃ b : Fin 2, x = (b.val : Int) := by
  rcases h with rfl | rfl
  · exact ⟨0, rfl⟩
  · exact ⟨1, rfl⟩
theorem box_digit : ∀ k : Fin 8, ∀ i : Fin 64, impl_digit.f (boxC k.val i.val) = some (hexv (boxC k.val i.val)) ∧ 0 ≤ hexv (boxC k.val i.val) ∧ hexv (boxC k.val i.val) < 16 := by decide +kernel
theorem num_nib : ∀ v : Fin 16, num (nib (v.val : Int)) = (v.val : Int) := by decide
/-- One round's numbers. -/
theorem box_round (x : List Int) (hx : Bits x) (hl : x.length = 48) (k : Nat) (hk : k < 8) : ∃ s row col : Int,
    num x / 2 ^ (42 - 6 * k) % 64 = s ∧ 0 ≤ s ∧ s < 64 ∧ Go.bits .or .u64 (Go.bits .and .u64 (s / 16) 2) (Go.bits .and .u64 s 1) = row ∧ 0 ≤ row ∧ row < 4 ∧ Go.bits .and .u64 (s / 2) 15 = col ∧ 0 ≤ col ∧ col < 16 ∧
      place (x.drop (6 * k)) = 16 * row + col := by
  obtain ⟨b0, h0⟩ := bit_fin (hx.nth (6 * k))
  obtain ⟨b1, h1⟩ := bit_fin (hx.nth (6 * k + 1))
  obtain ⟨b2, h2⟩ := bit_fin (hx.nth (6 * k + 2))
  obtain ⟨b3, h3⟩ := bit_fin (hx.nth (6 * k + 3))
  obtain ⟨b4, h4⟩ := bit_fin (hx.nth (6 * k + 4))
  obtain ⟨b5, h5⟩ := bit_fin (hx.nth (6 * k + 5))
  have e : num x / 2 ^ (42 - 6 * k) % 64 = num [(b0.val : Int), b1.val, b2.val, b3.val, b4.val, b5.val] := by
    have hd := num_div x hx (6 * k + 6) (by omega)
    rw [hl, show 48 - (6 * k + 6) = 42 - 6 * k by omega] at hd
    have hm := num_mod (x.take (6 * k + 6)) (hx.take _) (6 * k) (by rw [List.length_take]; omega)
    rw [List.length_take, show min (6 * k + 6) x.length - 6 * k = 6 by omega] at hm
    rw [hd, show (64 : Int) = 2 ^ 6 from rfl, hm]
    congr 1
    apply List.ext_getElem
    · rw [List.length_drop, List.length_take]; simp; omega
    · intro j hj1 hj2
      have hj : j < 6 := by simpa using hj2
      have hg : (List.drop (6 * k) (List.take (6 * k + 6) x))[j] = nth x (6 * k + j) := by
        rw [List.getElem_drop, List.getElem_take, nth_at _ _ (by omega)]
      rw [hg]
      have : j = 0 ∨ j = 1 ∨ j = 2 ∨ j = 3 ∨ j = 4 ∨ j = 5 := by omega
      rcases this with rfl | rfl | rfl | rfl | rfl | rfl
      · exact h0
      · exact h1
      · exact h2
      · exact h3
      · exact h4
      · exact h5
  have hb : Bits [(b0.val : Int), b1.val, b2.val, b3.val, b4.val, b5.val] := by
    intro y hy
    simp only [List.mem_cons, List.not_mem_nil, or_false] at hy
    rcases hy with rfl | rfl | rfl | rfl | rfl | rfl <;> omega
  have hbd := num_bound _ hb
  obtain ⟨r1, r2⟩ := six_row b0 b1 b2 b3 b4 b5
  refine ⟨_, (b0.val : Int) * 2 + b5.val, (b1.val : Int) * 8 + b2.val * 4 + b3.val * 2 + b4.val, e, hbd.1, hbd.2, r1, by omega, by omega, r2, by omega, by omega, ?_⟩
  unfold place
  rw [nth_drop, nth_drop, nth_drop, nth_drop, nth_drop, nth_drop, show 6 * k + 0 = 6 * k from rfl, h0, h1, h2, h3, h4, h5]
  omega
theorem boxes_or (x : List Int) (k : Nat) (hk : k < 8) (v : Int) (h0 : 0 ≤ v) (h1 : v < 16) : Go.bits .or .u64 (num (boxesTo x k) * 16) v = num (boxesTo x k ++ nib v) := by
  have hn : num (nib v) = v := by
    have := num_nib ⟨v.toNat, by omega⟩
    simp only [show ((v.toNat : Nat) : Int) = v by omega] at this
    exact this
  have hb := num_bound _ (boxesTo_bits x k)
  rw [boxesTo_length] at hb
  have hp : (2 : Int) ^ (4 * k) ≤ 2 ^ 28 := by exact_mod_cast Nat.pow_le_pow_right (by decide) (by omega)
  rw [num_append, hn]
  exact or_join _ v 4 (by omega) hb.1 h0 (by omega) (by omega)
theorem boxes_small (x : List Int) (k : Nat) (hk : k ≤ 8) : 0 ≤ num (boxesTo x k) ∧ num (boxesTo x k) < 4294967296 := by
  have hb := num_bound _ (boxesTo_bits x k)
  rw [boxesTo_length] at hb
  have hp : (2 : Int) ^ (4 * k) ≤ 2 ^ 32 := by exact_mod_cast Nat.pow_le_pow_right (by decide) (by omega)
  omega

theorem box_cell {w : World} (h : Tab w) (k : Nat) (hk : k < 8) : w.cell? ⟨6, k, none⟩ = some (.string ⟨(boxT.getD k []).toArray⟩) := by
  have := h.boxes k (.string ⟨(boxT.getD k []).toArray⟩) (by
    have hl : k < boxT.length := hk
    rw [List.getElem?_map, List.getElem?_eq_getElem hl, List.getD_eq_getElem?_getD, List.getElem?_eq_getElem hl]
    rfl)
  rwa [Nat.zero_add] at this
theorem box_size (k : Nat) (hk : k < 8) : (boxT.getD k []).length = 64 := by
  have : ∀ j : Fin 8, (boxT.getD j.val []).length = 64 := by decide
  exact this ⟨k, hk⟩
theorem run_index_box (k : Nat) (hk : k < 8) (i : Int) (h0 : 0 ≤ i) (h1 : i < 64) (W : World) :
    (Instr.index 9 (.string ⟨(boxT.getD k []).toArray⟩) (.int .u64 i)).run Tryd.prog W = .ok (.int .u8 (boxC k i.toNat)) W := by
  have hs := box_size k hk
  unfold boxC
  generalize boxT.getD k [] = B at *
  have hsz : (ByteArray.mk B.toArray).size = 64 := by simp [ByteArray.size, hs]
  rw [run_index_string _ _ _ _ _ Tryd.underlying9, dif_pos ⟨h0, by rw [hsz]; omega⟩]
  have : ((ByteArray.mk B.toArray)[i.toNat]'(by rw [hsz]; omega)) = B.getD i.toNat 0 := by
    show B.toArray[i.toNat]'(by simp [hs]; omega) = _
    rw [List.getElem_toArray, List.getD_eq_getElem?_getD, List.getElem?_eq_getElem (by omega)]
    rfl
  rw [this]
set_option maxHeartbeats 4000000 in
theorem impl_boxed.calls (x : List Int) (w : World) (hx : Bits x) (hl : x.length = 48) (ht : Tab w) :
    Calls Tryd.prog 66 #[.int .u64 (num x)] w fun e w' => e = .returned (.int .u64 (num (pickB (boxesB x) tP))) ∧ Drawn0 w w' := by
  have HX := Aside0.mk (And.intro hx hl)
  have HT := Aside0.mk ht
  have hbd := num_bound x hx
  rw [hl] at hbd
  clear hx hl ht
  go_enter Tryd.func66, Tryd.ntmps66
  go_wp2_with fail
  go_loopw [3, 4, 5, 6, 7] (fun v3 v4 v5 v6 v7 wr => ∃ k : Nat, k ≤ 8 ∧ v7 = .int .i64 k ∧ v3 = .int .u64 (num (boxesTo x k)) ∧ Aside0 (Drawn0 w wr))
    (fun _ _ _ _ v7 _ => 8 - (intOf v7).toNat)
  case atStart => exact ⟨0, by omega, rfl, rfl, ⟨Drawn0.refl _⟩⟩
  case round =>
    obtain ⟨k, hk, rfl, rfl, HW⟩ := hrel
    by_cases hlt : k < 8
    · obtain ⟨s, row, col, e1, s0, s1, e2, r0, r1, e3, c0, c1, e4⟩ := box_round x HX.out.1 HX.out.2 k hlt
      have hdv : 0 ≤ num x / 2 ^ (42 - 6 * k) ∧ num x / 2 ^ (42 - 6 * k) < 18446744073709551616 := by
        have hp := pow_pos2 (42 - 6 * k)
        refine ⟨Int.ediv_nonneg hbd.1 (by omega), ?_⟩
        have := Int.ediv_le_self (2 ^ (42 - 6 * k)) hbd.1
        omega
      have e0 : Go.bits .and .u64 (num x / 2 ^ (42 - 6 * k)) 63 = s := by rw [and63 _ hdv.1 hdv.2]; exact e1
      have hidx := run_index_box k hlt (16 * row + col) (by omega) (by omega)
      have hbc := box_cell (HT.out.below HW.out.below) k hlt
      obtain ⟨B, hB⟩ : ∃ B : ByteArray, B = ⟨(boxT.getD k []).toArray⟩ := ⟨_, rfl⟩
      rw [← hB] at hidx hbc
      have hdg := box_digit ⟨k, hlt⟩ ⟨(16 * row + col).toNat, by omega⟩
      simp only [] at hdg
      obtain ⟨dg0, dg1, dg2⟩ := hdg
      have hor := boxes_or x k hlt _ dg1 dg2
      have hst : Aside0 (boxesTo x (k + 1) = boxesTo x k ++ nib (hexv (boxC k (16 * row + col).toNat))) := ⟨by rw [boxesTo, boxB, e4]⟩
      have hsm := boxes_small x k hk
      obtain ⟨v, hv⟩ : ∃ v, v = hexv (boxC k (16 * row + col).toNat) := ⟨_, rfl⟩
      rw [← hv] at dg0 dg1 dg2 hor hst
      obtain ⟨ch, hch⟩ : ∃ ch, ch = boxC k (16 * row + col).toNat := ⟨_, rfl⟩
      rw [← hch] at dg0 hidx
      have KD := Aside0.mk (fun (w1 : World) => impl_digit.calls ch v w1 dg0)
      rw [← hst.out] at hor
      obtain ⟨y, hy⟩ : ∃ y, y = num (boxesTo x k) := ⟨_, rfl⟩
      rw [← hy] at hor hsm ⊢
      clear hB e1 e4 hv hch dg0 hy hst
      have e42 : (42 - 6 * (k : Int)).toNat = 42 - 6 * k := by omega
      obtain ⟨hx0, hx1⟩ := hbd
      obtain ⟨hy0, hy1⟩ := hsm
      go_wp2_with (go_at_call 75; go_must (refine (KD.out _).mono ?_; rintro e w2 ⟨rfl, ⟨nd, rfl⟩⟩))
      go_round
      case rel => exact ⟨k + 1, by omega, by go_num, rfl, ⟨HW.out.step nd⟩⟩
      case measure => simp [intOf]; omega
    · obtain rfl : k = 8 := by omega
      have hl32 : (boxesTo x 8).length = 32 := boxesTo_length x 8
      have hpick := impl_pick_eq (boxesTo x 8) tP (boxesTo_bits x 8) (by rw [hl32]; omega) (by decide) (by rw [hl32]; exact within_p) 100 (by decide)
      rw [hl32] at hpick
      obtain ⟨A7, c7, hcell7, hle7, hC7⟩ := (HT.out.below HW.out.below).p
      have KP := Aside0.mk (fun (w1 : World) (hC1 : Kd.C (Kd.int .u8) w1 A7 tP.length tP) => impl_pick_byte.calls 100 _ 32 A7 c7 tP _ w1 hC1 hle7 hpick)
      have HC7 := Aside0.mk hC7
      clear hpick hl32 hle7 hC7 hbd
      go_wp2_with (go_at_call 65; go_must (refine (KP.out _ ?cc).mono ?_; (case cc => exact HC7.out); rintro e w2 ⟨rfl, ⟨nd, rfl⟩⟩))
      go_ret
      exact ⟨rfl, HW.out.step nd⟩
end Go.Proofs.YtbjlpdfhjapbkaaDoor
