/- Contract of impl.blockOf: the bytes of a number's 64 bits. Condition: the number is that of 64 bits. · The tables as they lie in the heap; that they still lie there behind calls that only add. · Contract of impl.boxed: 48 bits through the boxes and the table. Conditions: the number is that of 48 bits; the tables lie there. · Contract of impl.roundKeys: the 16 keys' numbers. Conditions: a block of 8 bytes; the tables lie there. · Contract of impl.des: DES of a block. Conditions: blocks of 8 bytes; the tables lie there. · Contract of impl.Des where it answers a block. Conditions: 8 bytes and 8 bytes; the tables lie there. -/
import Derived.Test.YtbjlpdfhjapbkaaDoorFound
import Derived.Test.YtbjlpdfhjapbkaaDoorDesCD
import Derived.Deep.MidRow
import Derived.Deep.QuietTactic
import Derived.BigQuiet
import Derived.Deep.RegionWith
import Derived.Deep.Cut
import Derived.Deep.RegionHeld3
namespace Go.Proofs.YtbjlpdfhjapbkaaDoor
open Go.RowKit Go.Proofs.YtbjlpdfhjapbkaaDoorW.PrintWords Go.Proofs.YtbjlpdfhjapbkaaDoorW.PrintLast Go.Proofs.YtbjlpdfhjapbkaaDoorW.PrintMore Go.Proofs.YtbjlpdfhjapbkaaDoor.D
set_option linter.unusedVariables false

def outTo (bs : List Int) (i : Nat) : List Int := unbits (bs.take (8 * i)) ++ List.replicate (8 - i) 0
theorem outTo_length (bs : List Int) (i : Nat) (h : bs.length = 64) (hi : i ≤ 8) : (outTo bs i).length = 8 := by
  rw [outTo, List.length_append, unbits_length i _ (by rw [List.length_take]; omega), List.length_replicate]
  omega
theorem outTo_step (bs : List Int) (i : Nat) (h : bs.length = 64) (hb : Bits bs) (hi : i < 8) : (outTo bs i).set i (num bs / 2 ^ (56 - 8 * i) % 256) = outTo bs (i + 1) := by
  have hl : (unbits (bs.take (8 * i))).length = i := unbits_length i _ (by rw [List.length_take]; omega)
  have h1 : bs.take (8 * (i + 1)) = bs.take (8 * i) ++ (bs.drop (8 * i)).take 8 := by
    rw [show 8 * (i + 1) = 8 * i + 8 by omega, List.take_add]
  have e : num bs / 2 ^ (56 - 8 * i) % 256 = num ((bs.drop (8 * i)).take 8) := by
    have hd := num_div bs hb (8 * i + 8) (by omega)
    rw [h, show 64 - (8 * i + 8) = 56 - 8 * i by omega] at hd
    have hm := num_mod (bs.take (8 * i + 8)) (hb.take _) (8 * i) (by rw [List.length_take]; omega)
    rw [List.length_take, show min (8 * i + 8) bs.length - 8 * i = 8 by omega] at hm
    rw [hd, show (256 : Int) = 2 ^ 8 from rfl, hm]
    congr 1
    rw [List.drop_take]
    congr 1
    omega
  rw [e]
  unfold outTo
  rw [h1, B.unbits_append i _ _ (by rw [List.length_take]; omega), show 8 - i = (8 - (i + 1)) + 1 by omega, List.replicate_succ]
  obtain ⟨x0, x1, x2, x3, x4, x5, x6, x7, t, ht⟩ := list8 (l := bs.drop (8 * i)) (by rw [List.length_drop]; omega)
  rw [ht]
  have hset : ∀ (pre : List Int) (v : Int) (rest : List Int), pre.length = i → (pre ++ 0 :: rest).set i v = pre ++ v :: rest := by
    intro pre v rest hp
    subst hp
    simp
  rw [hset _ _ _ hl, List.append_assoc]
  rfl

set_option maxHeartbeats 1000000 in
theorem impl_blockOf.calls (bs : List Int) (w : World) (h64 : bs.length = 64) (hb : Bits bs) :
    Calls Tryd.prog 59 #[.int .u64 (num bs)] w fun e w' => e = .returned (.agg (nums .u8 (unbits bs)).toArray) ∧ Below w.heap.size w w' := by
  have H8 := Aside0.mk h64
  have HB := Aside0.mk hb
  clear h64 hb
  go_enter Tryd.func59, Tryd.ntmps59
  go_wp2_with fail
  go_loopw [6] (fun i wr => ∃ k : Nat, k ≤ 8 ∧ i = .int .i64 k ∧ Aside0 (Blk wr (w.heap.size + 1) .u8 38 (outTo bs k)) ∧ Aside0 (Blk wr w.heap.size .u8 38 (List.replicate 8 0)) ∧ Aside0 (Below w.heap.size w wr))
    (fun i _ => 8 - (intOf i).toNat)
  case atStart => exact ⟨0, by omega, rfl, ⟨by have h_ := blk_new (w.alloc (.cells (nums .u8 (List.replicate 8 0)).toArray 38)) (.cells (nums .u8 (List.replicate 8 0)).toArray 38); simpa [nums, Blk, outTo, unbits, List.replicate] using h_⟩, ⟨by have h_ := blk_alloc (blk_new w (.cells (nums .u8 (List.replicate 8 0)).toArray 38)) (.cells (nums .u8 (List.replicate 8 0)).toArray 38); simpa [nums, Blk, List.replicate] using h_⟩, ⟨((Below.refl _ _).alloc (Nat.le_refl _) _).alloc (by simp) _⟩⟩
  case round =>
    obtain ⟨k, hk, rfl, HO, HZ, HW⟩ := hrel
    by_cases hlt : k < 8
    · have hc := HO.out.cell k (by rw [outTo_length bs k H8.out hk]; exact hlt)
      have hf := HO.out.free k
      have HS := Aside0.mk (outTo_step bs k H8.out HB.out hlt)
      have hset := Aside0.mk (HO.out.set k (num bs / 2 ^ (56 - 8 * k) % 256))
      have hz := Aside0.mk (HZ.out.far (p := ⟨w.heap.size + 1, k, none⟩) (by simp) (.int .u8 (num bs / 2 ^ (56 - 8 * k) % 256)))
      have hw := Aside0.mk (HW.out.setCell (p := ⟨w.heap.size + 1, k, none⟩) (by simp) (.int .u8 (num bs / 2 ^ (56 - 8 * k) % 256)))
      have hnb := num_bound bs HB.out
      rw [H8.out] at hnb
      obtain ⟨v, hv⟩ : ∃ v, v = num bs := ⟨_, rfl⟩
      rw [← hv] at HS hset hz hw hnb ⊢
      clear hv
      obtain ⟨hn0, hn1⟩ := hnb
      have e8 : (56 - 8 * (k : Int)).toNat = 56 - 8 * k := by omega
      go_wp2
      go_roundw
      case rel =>
        refine ⟨k + 1, by omega, by go_num, ?_, ?_, ?_⟩
        · rw [← HS.out]
          first | exact hset | (simp only [e8] at *; exact hset) | trace_state
        · first | exact hz | trace_state
        · first | exact hw | trace_state
      case measure => simp [intOf]; omega
    · obtain rfl : k = 8 := by omega
      have ho8 : outTo bs 8 = unbits bs := by
        unfold outTo
        rw [List.take_of_length_le (by rw [H8.out]; exact Nat.le_refl _)]
        simp
      have hl8 := unbits_length 8 bs (by rw [H8.out])
      rw [ho8] at HO
      clear ho8
      have HL := Aside0.mk hl8
      clear hl8
      go_wp2_with (first | (with_reducible refine wpList_load_blk rfl 38 (.tmp 3) rfl (w.heap.size + 1) rfl Tryd.underlying38 info8 HO.out HL.out ?_) | (with_reducible refine wpList_store_blk rfl 38 (.tmp 2) (.tmp 18) rfl w.heap.size rfl info8 rfl HZ.out (by simp) HL.out ?_))
      refine bodyPost_ret (results_blk rfl _ _ w.heap.size Tryd.underlying38 info8 rfl (HZ.out.setRow _) HL.out) rfl ⟨rfl, below_setRow HW.out (Nat.le_refl _) _⟩
end Go.Proofs.YtbjlpdfhjapbkaaDoor

namespace Go.Proofs.YtbjlpdfhjapbkaaDoor
open Go.RowKit Go.Proofs.YtbjlpdfhjapbkaaDoorW.PrintWords Go.Proofs.YtbjlpdfhjapbkaaDoorW.PrintLast Go.Proofs.YtbjlpdfhjapbkaaDoorW.PrintMore Go.Proofs.YtbjlpdfhjapbkaaDoor.D
set_option linter.unusedVariables false

/-- A variable that holds a slice of bytes. -/
def Sl (w : World) (g : Nat) (l : List Int) : Prop := ∃ A c, w.cell? ⟨g, 0, none⟩ = some (.slice A l.length c) ∧ l.length ≤ c ∧ Kd.C (Kd.int .u8) w A l.length l
theorem Sl.below {w w1 : World} {g : Nat} {l : List Int} (h : Sl w g l) (hb : Below w.heap.size w w1) : Sl w1 g l := by
  obtain ⟨A, c, h1, h2, h3⟩ := h
  exact ⟨A, c, (hb.cell (World.block_lt_of_cell? w _ h1)).trans h1, h2, Kd.C_below h3 hb⟩
theorem rangeAt_below {w w1 : World} {g o : Nat} {cs : List Value} (h : w.rangeAt g o cs) (hb : Below w.heap.size w w1) : w1.rangeAt g o cs :=
  fun j v hv => (hb.cell (World.block_lt_of_cell? w _ (h j v hv))).trans (h j v hv)
structure Tab (w : World) : Prop where
  ip : Sl w 1 tIP
  e : Sl w 2 tE
  p : Sl w 7 tP
  pc1 : Sl w 3 tPC1
  pc2 : Sl w 5 tPC2
  turns : w.rangeAt 4 0 (nums .i64 (turnsL.map fun (n : Nat) => (n : Int)))
  boxes : w.rangeAt 6 0 (boxT.map fun b => .string ⟨b.toArray⟩)
theorem Tab.below {w w1 : World} (h : Tab w) (hb : Below w.heap.size w w1) : Tab w1 :=
  ⟨h.ip.below hb, h.e.below hb, h.p.below hb, h.pc1.below hb, h.pc2.below hb, rangeAt_below h.turns hb, rangeAt_below h.boxes hb⟩
theorem Blk.range {w : World} {g : Nat} {k : IntKind} {t : TypeId} {xs : List Int} (h : Blk w g k t xs) : w.rangeAt g 0 (nums k xs) := by
  intro j v hv
  have hj : j < xs.length := by
    rcases Nat.lt_or_ge j xs.length with h' | h'
    · exact h'
    · simp [nums, List.getElem?_eq_none h'] at hv
  rw [Nat.zero_add, h.cell j hj]
  simp [nums, hj] at hv
  subst hv
  rw [nth_at _ _ hj]
end Go.Proofs.YtbjlpdfhjapbkaaDoor

namespace Go.Proofs.YtbjlpdfhjapbkaaDoor
open Go.RowKit Go.Proofs.YtbjlpdfhjapbkaaDoorW.PrintWords Go.Proofs.YtbjlpdfhjapbkaaDoorW.PrintLast Go.Proofs.YtbjlpdfhjapbkaaDoorW.PrintMore Go.Proofs.YtbjlpdfhjapbkaaDoor.D Go.Proofs.YtbjlpdfhjapbkaaDoor.B
set_option linter.unusedVariables false

theorem six_row : ∀ b0 b1 b2 b3 b4 b5 : Fin 2,
    Go.bits .or .u64 (Go.bits .and .u64 (num [(b0.val : Int), b1.val, b2.val, b3.val, b4.val, b5.val] / 16) 2) (Go.bits .and .u64 (num [(b0.val : Int), b1.val, b2.val, b3.val, b4.val, b5.val]) 1) = (b0.val : Int) * 2 + b5.val ∧
      Go.bits .and .u64 (num [(b0.val : Int), b1.val, b2.val, b3.val, b4.val, b5.val] / 2) 15 = ((b1.val : Int) * 8 + b2.val * 4 + b3.val * 2 + b4.val) := by decide +kernel
theorem bit_fin {x : Int} (h : x = 0 ∨ x = 1) : ∃ b : Fin 2, x = (b.val : Int) := by
  rcases h with rfl | rfl
  · exact ⟨0, rfl⟩
  · exact ⟨1, rfl⟩
theorem box_digit : ∀ k : Fin 8, ∀ i : Fin 64, impl_digit.f (boxC k.val i.val) = some (hexv (boxC k.val i.val)) ∧ 0 ≤ hexv (boxC k.val i.val) ∧ hexv (boxC k.val i.val) < 16 := by decide +kernel
theorem num_nib : ∀ v : Fin 16, num (nib (v.val : Int)) = (v.val : Int) := by decide
/-- One round's numbers. -/
theorem box_round (x : List Int) (hx : Bits x) (hl : x.length = 48) (k : Nat) (hk : k < 8) : ∃ s row col : Int,
    num x / 2 ^ (42 - 6 * k) % 64 = s ∧ 0 ≤ s ∧ s < 64 ∧ Go.bits .or .u64 (Go.bits .and .u64 (s / 16) 2) (Go.bits .and .u64 s 1) = row ∧ 0 ≤ row ∧ row < 4 ∧ Go.bits .and .u64 (s / 2) 15 = col ∧ 0 ≤ col ∧ col < 16 ∧
      place (x.drop (6 * k)) = 16 * row + col := by
  obtain ⟨b0, h0⟩ := bit_fin (hx.nth (6 * k))
  obtain ⟨b1, h1⟩ := bit_fin (hx.nth (6 * k + 1))
  obtain ⟨b2, h2⟩ := bit_fin (hx.nth (6 * k + 2))
  obtain ⟨b3, h3⟩ := bit_fin (hx.nth (6 * k + 3))
  obtain ⟨b4, h4⟩ := bit_fin (hx.nth (6 * k + 4))
  obtain ⟨b5, h5⟩ := bit_fin (hx.nth (6 * k + 5))
  have e : num x / 2 ^ (42 - 6 * k) % 64 = num [(b0.val : Int), b1.val, b2.val, b3.val, b4.val, b5.val] := by
    have hd := num_div x hx (6 * k + 6) (by omega)
    rw [hl, show 48 - (6 * k + 6) = 42 - 6 * k by omega] at hd
    have hm := num_mod (x.take (6 * k + 6)) (hx.take _) (6 * k) (by rw [List.length_take]; omega)
    rw [List.length_take, show min (6 * k + 6) x.length - 6 * k = 6 by omega] at hm
    rw [hd, show (64 : Int) = 2 ^ 6 from rfl, hm]
    congr 1
    apply List.ext_getElem
    · rw [List.length_drop, List.length_take]; simp; omega
    · intro j hj1 hj2
      have hj : j < 6 := by simpa using hj2
      have hg : (List.drop (6 * k) (List.take (6 * k + 6) x))[j] = nth x (6 * k + j) := by
        rw [List.getElem_drop, List.getElem_take, nth_at _ _ (by omega)]
      rw [hg]
      have : j = 0 ∨ j = 1 ∨ j = 2 ∨ j = 3 ∨ j = 4 ∨ j = 5 := by omega
      rcases this with rfl | rfl | rfl | rfl | rfl | rfl
      · exact h0
      · exact h1
      · exact h2
      · exact h3
      · exact h4
      · exact h5
  have hb : Bits [(b0.val : Int), b1.val, b2.val, b3.val, b4.val, b5.val] := by
    intro y hy
    simp only [List.mem_cons, List.not_mem_nil, or_false] at hy
    rcases hy with rfl | rfl | rfl | rfl | rfl | rfl <;> omega
  have hbd := num_bound _ hb
  obtain ⟨r1, r2⟩ := six_row b0 b1 b2 b3 b4 b5
  refine ⟨_, (b0.val : Int) * 2 + b5.val, (b1.val : Int) * 8 + b2.val * 4 + b3.val * 2 + b4.val, e, hbd.1, hbd.2, r1, by omega, by omega, r2, by omega, by omega, ?_⟩
  unfold place
  rw [nth_drop, nth_drop, nth_drop, nth_drop, nth_drop, nth_drop, show 6 * k + 0 = 6 * k from rfl, h0, h1, h2, h3, h4, h5]
  omega
theorem boxes_or (x : List Int) (k : Nat) (hk : k < 8) (v : Int) (h0 : 0 ≤ v) (h1 : v < 16) : Go.bits .or .u64 (num (boxesTo x k) * 16) v = num (boxesTo x k ++ nib v) := by
  have hn : num (nib v) = v := by
    have := num_nib ⟨v.toNat, by omega⟩
    simp only [show ((v.toNat : Nat) : Int) = v by omega] at this
    exact this
  have hb := num_bound _ (boxesTo_bits x k)
  rw [boxesTo_length] at hb
  have hp : (2 : Int) ^ (4 * k) ≤ 2 ^ 28 := by exact_mod_cast Nat.pow_le_pow_right (by decide) (by omega)
  rw [num_append, hn]
  exact or_join _ v 4 (by omega) hb.1 h0 (by omega) (by omega)
theorem boxes_small (x : List Int) (k : Nat) (hk : k ≤ 8) : 0 ≤ num (boxesTo x k) ∧ num (boxesTo x k) < 4294967296 := by
  have hb := num_bound _ (boxesTo_bits x k)
  rw [boxesTo_length] at hb
  have hp : (2 : Int) ^ (4 * k) ≤ 2 ^ 32 := by exact_mod_cast Nat.pow_le_pow_right (by decide) (by omega)
  omega

theorem box_cell {w : World} (h : Tab w) (k : Nat) (hk : k < 8) : w.cell? ⟨6, k, none⟩ = some (.string ⟨(boxT.getD k []).toArray⟩) := by
  have := h.boxes k (.string ⟨(boxT.getD k []).toArray⟩) (by
    have hl : k < boxT.length := hk
    rw [List.getElem?_map, List.getElem?_eq_getElem hl, List.getD_eq_getElem?_getD, List.getElem?_eq_getElem hl]
    rfl)
  rwa [Nat.zero_add] at this
theorem box_size (k : Nat) (hk : k < 8) : (boxT.getD k []).length = 64 := by
  have : ∀ j : Fin 8, (boxT.getD j.val []).length = 64 := by decide
  exact this ⟨k, hk⟩
theorem run_index_box (k : Nat) (hk : k < 8) (i : Int) (h0 : 0 ≤ i) (h1 : i < 64) (W : World) :
    (Instr.index 9 (.string ⟨(boxT.getD k []).toArray⟩) (.int .u64 i)).run Tryd.prog W = .ok (.int .u8 (boxC k i.toNat)) W := by
  have hs := box_size k hk
  unfold boxC
  generalize boxT.getD k [] = B at *
  have hsz : (ByteArray.mk B.toArray).size = 64 := by simp [ByteArray.size, hs]
  rw [run_index_string _ _ _ _ _ Tryd.underlying9, dif_pos ⟨h0, by rw [hsz]; omega⟩]
  have : ((ByteArray.mk B.toArray)[i.toNat]'(by rw [hsz]; omega)) = B.getD i.toNat 0 := by
    show B.toArray[i.toNat]'(by simp [hs]; omega) = _
    rw [List.getElem_toArray, List.getD_eq_getElem?_getD, List.getElem?_eq_getElem (by omega)]
    rfl
  rw [this]
set_option maxHeartbeats 4000000 in
theorem impl_boxed.calls (x : List Int) (w : World) (hx : Bits x) (hl : x.length = 48) (ht : Tab w) :
    Calls Tryd.prog 66 #[.int .u64 (num x)] w fun e w' => e = .returned (.int .u64 (num (pickB (boxesB x) tP))) ∧ Drawn0 w w' := by
  have HX := Aside0.mk (And.intro hx hl)
  have HT := Aside0.mk ht
  have hbd := num_bound x hx
  rw [hl] at hbd
  clear hx hl ht
  go_enter Tryd.func66, Tryd.ntmps66
  go_wp2_with fail
  go_loopw [3, 4, 5, 6, 7] (fun v3 v4 v5 v6 v7 wr => ∃ k : Nat, k ≤ 8 ∧ v7 = .int .i64 k ∧ v3 = .int .u64 (num (boxesTo x k)) ∧ Aside0 (Drawn0 w wr))
    (fun _ _ _ _ v7 _ => 8 - (intOf v7).toNat)
  case atStart => exact ⟨0, by omega, rfl, rfl, ⟨Drawn0.refl _⟩⟩
  case round =>
    obtain ⟨k, hk, rfl, rfl, HW⟩ := hrel
    by_cases hlt : k < 8
    · obtain ⟨s, row, col, e1, s0, s1, e2, r0, r1, e3, c0, c1, e4⟩ := box_round x HX.out.1 HX.out.2 k hlt
      have hdv : 0 ≤ num x / 2 ^ (42 - 6 * k) ∧ num x / 2 ^ (42 - 6 * k) < 18446744073709551616 := by
        have hp := pow_pos2 (42 - 6 * k)
        refine ⟨Int.ediv_nonneg hbd.1 (by omega), ?_⟩
        have := Int.ediv_le_self (2 ^ (42 - 6 * k)) hbd.1
        omega
      have e0 : Go.bits .and .u64 (num x / 2 ^ (42 - 6 * k)) 63 = s := by rw [and63 _ hdv.1 hdv.2]; exact e1
      have hidx := run_index_box k hlt (16 * row + col) (by omega) (by omega)
      have hbc := box_cell (HT.out.below HW.out.below) k hlt
      obtain ⟨B, hB⟩ : ∃ B : ByteArray, B = ⟨(boxT.getD k []).toArray⟩ := ⟨_, rfl⟩
      rw [← hB] at hidx hbc
      have hdg := box_digit ⟨k, hlt⟩ ⟨(16 * row + col).toNat, by omega⟩
      simp only [] at hdg
      obtain ⟨dg0, dg1, dg2⟩ := hdg
      have hor := boxes_or x k hlt _ dg1 dg2
      have hst : Aside0 (boxesTo x (k + 1) = boxesTo x k ++ nib (hexv (boxC k (16 * row + col).toNat))) := ⟨by rw [boxesTo, boxB, e4]⟩
      have hsm := boxes_small x k hk
      obtain ⟨v, hv⟩ : ∃ v, v = hexv (boxC k (16 * row + col).toNat) := ⟨_, rfl⟩
      rw [← hv] at dg0 dg1 dg2 hor hst
      obtain ⟨ch, hch⟩ : ∃ ch, ch = boxC k (16 * row + col).toNat := ⟨_, rfl⟩
      rw [← hch] at dg0 hidx
      have KD := Aside0.mk (fun (w1 : World) => impl_digit.calls ch v w1 dg0)
      rw [← hst.out] at hor
      obtain ⟨y, hy⟩ : ∃ y, y = num (boxesTo x k) := ⟨_, rfl⟩
      rw [← hy] at hor hsm ⊢
      clear hB e1 e4 hv hch dg0 hy hst
      have e42 : (42 - 6 * (k : Int)).toNat = 42 - 6 * k := by omega
      obtain ⟨hx0, hx1⟩ := hbd
      obtain ⟨hy0, hy1⟩ := hsm
      go_wp2_with (go_at_call 75; go_must (refine (KD.out _).mono ?_; rintro e w2 ⟨rfl, ⟨nd, rfl⟩⟩))
      go_round
      case rel => exact ⟨k + 1, by omega, by go_num, rfl, ⟨HW.out.step nd⟩⟩
      case measure => simp [intOf]; omega
    · obtain rfl : k = 8 := by omega
      have hl32 : (boxesTo x 8).length = 32 := boxesTo_length x 8
      have hpick := impl_pick_eq (boxesTo x 8) tP (boxesTo_bits x 8) (by rw [hl32]; omega) (by decide) (by rw [hl32]; exact within_p) 100 (by decide)
      rw [hl32] at hpick
      obtain ⟨A7, c7, hcell7, hle7, hC7⟩ := (HT.out.below HW.out.below).p
      have KP := Aside0.mk (fun (w1 : World) (hC1 : Kd.C (Kd.int .u8) w1 A7 tP.length tP) => impl_pick_byte.calls 100 _ 32 A7 c7 tP _ w1 hC1 hle7 hpick)
      have HC7 := Aside0.mk hC7
      clear hpick hl32 hle7 hC7 hbd
      go_wp2_with (go_at_call 65; go_must (refine (KP.out _ ?cc).mono ?_; (case cc => exact HC7.out); rintro e w2 ⟨rfl, ⟨nd, rfl⟩⟩))
      go_ret
      exact ⟨rfl, HW.out.step nd⟩
end Go.Proofs.YtbjlpdfhjapbkaaDoor

namespace Go.Proofs.YtbjlpdfhjapbkaaDoor
open Go.RowKit Go.Proofs.YtbjlpdfhjapbkaaDoorW.PrintWords Go.Proofs.YtbjlpdfhjapbkaaDoorW.PrintLast Go.Proofs.YtbjlpdfhjapbkaaDoorW.PrintMore Go.Proofs.YtbjlpdfhjapbkaaDoor.D Go.Proofs.YtbjlpdfhjapbkaaDoor.B
set_option linter.unusedVariables false

theorem turn_num (c : List Int) (hc : Bits c) (hl : c.length = 28) (n : Nat) (hn : n = 1 ∨ n = 2) :
    Go.bits .and .u64 (Go.bits .or .u64 (num c * 2 ^ n) (num c / 2 ^ (28 - n))) 268435455 = num (turnB n c) := by
  have hb := num_bound c hc
  rw [hl] at hb
  have h1 := num_div c hc n (by omega)
  have h2 := num_mod c hc n (by omega)
  have hs := num_split c n (by omega)
  rw [hl] at h1 h2 hs
  have ht := num_bound (c.take n) (hc.take n)
  have htl : (c.take n).length = n := by rw [List.length_take]; omega
  rw [htl] at ht
  have hd := num_bound (c.drop n) (hc.drop n)
  have hdl : (c.drop n).length = 28 - n := by rw [List.length_drop]; omega
  rw [hdl] at hd
  have e : num (turnB n c) = num (c.drop n) * 2 ^ n + num (c.take n) := by rw [turnB, num_append, htl]
  rw [h1, e]
  generalize num (c.take n) = t at *
  generalize num (c.drop n) = d at *
  generalize num c = x at *
  rcases hn with rfl | rfl
  · rw [or_join x t 1 (by omega) hb.1 ht.1 ht.2 (by omega), and28 _ (by omega) (by omega)]
    omega
  · rw [or_join x t 2 (by omega) hb.1 ht.1 ht.2 (by omega), and28 _ (by omega) (by omega)]
    omega
def turnsTo (ns : List Nat) (c : List Int) : List Int := ns.foldl (fun c n => turnB n c) c
theorem turnsTo_snoc (ns : List Nat) (n : Nat) (c : List Int) : turnsTo (ns ++ [n]) c = turnB n (turnsTo ns c) := by simp [turnsTo]
theorem keysFrom_snoc (ns : List Nat) : ∀ (n : Nat) (c d : List Int), keysFrom (ns ++ [n]) c d = keysFrom ns c d ++ [pickB (turnB n (turnsTo ns c) ++ turnB n (turnsTo ns d)) tPC2] := by
  induction ns with
  | nil => intro n c d; rfl
  | cons m ns ih => intro n c d; simp only [List.cons_append, keysFrom, ih]; rfl
theorem turnsTo_good (ns : List Nat) : ∀ (c : List Int), Bits c → Bits (turnsTo ns c) ∧ (turnsTo ns c).length = c.length := by
  induction ns with
  | nil => intro c h; exact ⟨h, rfl⟩
  | cons m ns ih => intro c h; have := ih (turnB m c) (turnB_bits h m); rw [turnB_length] at this; exact this
def turnAt (i : Nat) : Nat := turnsL.getD i 0
theorem turnAt_12 (i : Nat) (h : i < 16) : turnAt i = 1 ∨ turnAt i = 2 := by
  have : ∀ j : Fin 16, turnAt j.val = 1 ∨ turnAt j.val = 2 := by decide
  exact this ⟨i, h⟩
theorem turns_take (i : Nat) (h : i < 16) : turnsL.take (i + 1) = turnsL.take i ++ [turnAt i] := by
  have : ∀ j : Fin 16, turnsL.take (j.val + 1) = turnsL.take j.val ++ [turnAt j.val] := by decide
  exact this ⟨i, h⟩
def keyOut (c d : List Int) (i : Nat) : List Int := (keysFrom (turnsL.take i) c d).map num ++ List.replicate (16 - i) 0
theorem keyOut_length (c d : List Int) (i : Nat) (h : i ≤ 16) : (keyOut c d i).length = 16 := by
  have h1 : (turnsL.take i).length = i := by rw [List.length_take, show turnsL.length = 16 from rfl]; omega
  rw [keyOut, List.length_append, List.length_map, keysFrom_length, h1, List.length_replicate]
  omega
theorem keyOut_step (c d : List Int) (i : Nat) (h : i < 16) :
    (keyOut c d i).set i (num (pickB (turnB (turnAt i) (turnsTo (turnsL.take i) c) ++ turnB (turnAt i) (turnsTo (turnsL.take i) d)) tPC2)) = keyOut c d (i + 1) := by
  have h1 : ((keysFrom (turnsL.take i) c d).map num).length = i := by rw [List.length_map, keysFrom_length, List.length_take, show turnsL.length = 16 from rfl]; omega
  unfold keyOut
  rw [turns_take i h, keysFrom_snoc, List.map_append, show 16 - i = (16 - (i + 1)) + 1 by omega, List.replicate_succ, List.set_append_right _ _ (by omega), h1, Nat.sub_self, List.set_cons_zero, List.append_assoc]
  rfl
theorem keyOut_all (c d : List Int) : keyOut c d 16 = (keysFrom turnsL c d).map num := by
  unfold keyOut
  rw [show turnsL.take 16 = turnsL from rfl]
  simp
theorem cd_num (c d : List Int) (hc : Bits c) (hd : Bits d) (hcl : c.length = 28) (hdl : d.length = 28) : Go.bits .or .u64 (num c * 268435456) (num d) = num (c ++ d) := by
  have h1 := num_bound c hc
  have h2 := num_bound d hd
  rw [hcl] at h1
  rw [hdl] at h2
  rw [num_append, hdl]
  exact or_join (num c) (num d) 28 (by omega) h1.1 h2.1 h2.2 (by omega)

theorem info77 : (Tryd.prog.info? 77).map (·.size) = some 16 := by kernel_rfl
theorem size3 : (Tryd.prog.info? 3).map (·.size) = some 1 := by kernel_rfl
theorem info70 : (Tryd.prog.info? 70).map (·.size) = some 16 := by kernel_rfl
set_option maxHeartbeats 4000000 in
theorem impl_roundKeys.calls (key : List Int) (w : World) (h8 : key.length = 8) (hb : Bytes key) (ht : Tab w) :
    Calls Tryd.prog 64 #[.agg (nums .u8 key).toArray] w fun e w' => e = .returned (.agg (nums .u64 ((keysB key).map num)).toArray) ∧ Below w.heap.size w w' := by
  obtain ⟨k0, k1, k2, k3, k4, k5, k6, k7, t, rfl⟩ := list8 (l := key) (by omega)
  obtain rfl : t = [] := List.length_eq_zero_iff.1 (by simpa using h8)
  have HT := Aside0.mk ht
  have H8 := Aside0.mk h8
  have KN := Aside0.mk (fun (w1 : World) => impl_number.calls [k0, k1, k2, k3, k4, k5, k6, k7] w1 h8 hb)
  have hk64 : (bitsOf [k0, k1, k2, k3, k4, k5, k6, k7]).length = 64 := by rw [bitsOf_length, h8]
  have hpick := impl_pick_eq (bitsOf [k0, k1, k2, k3, k4, k5, k6, k7]) tPC1 (bitsOf_bits _) (by rw [hk64]; omega) (by decide) (by rw [hk64]; exact within_pc1) 100 (by decide)
  rw [hk64] at hpick
  clear hk64
  obtain ⟨A1, c1, hcell, hle, hC⟩ := HT.out.pc1
  have KP := Aside0.mk (fun (w1 : World) (hC1 : Kd.C (Kd.int .u8) w1 A1 tPC1.length tPC1) => impl_pick_byte.calls 100 (num (bitsOf [k0, k1, k2, k3, k4, k5, k6, k7])) 64 A1 c1 tPC1 _ w1 hC1 hle hpick)
  have hlt := World.block_lt_of_cell? w _ hcell
  have HC1 := Aside0.mk hC
  obtain ⟨cd, hcd⟩ : ∃ cd, cd = pickB (bitsOf [k0, k1, k2, k3, k4, k5, k6, k7]) tPC1 := ⟨_, rfl⟩
  have hcdb : Bits cd := hcd ▸ pickB_bits (bitsOf_bits _) _
  have hcdl : cd.length = 56 := by rw [hcd, pickB_length]; rfl
  have hkb : keysB [k0, k1, k2, k3, k4, k5, k6, k7] = keysFrom turnsL (cd.take 28) (cd.drop 28) := by rw [hcd]; rfl
  rw [← hcd] at KP
  obtain ⟨c, hc⟩ : ∃ c, c = cd.take 28 := ⟨_, rfl⟩
  obtain ⟨d, hd⟩ : ∃ d, d = cd.drop 28 := ⟨_, rfl⟩
  rw [hkb, ← hc, ← hd]
  have hC1 : Aside0 (Bits c ∧ c.length = 28) := ⟨by rw [hc]; exact ⟨hcdb.take _, by rw [List.length_take]; omega⟩⟩
  have hD1 : Aside0 (Bits d ∧ d.length = 28) := ⟨by rw [hd]; exact ⟨hcdb.drop _, by rw [List.length_drop]; omega⟩⟩
  have hsh : Aside0 (num cd / 268435456 = num c) := ⟨by have := num_div cd hcdb 28 (by omega); rw [hcdl] at this; rw [hc]; exact this⟩
  have hbd := num_bound cd hcdb
  rw [hcdl] at hbd
  have han : Aside0 (Go.bits .and .u64 (num cd) 268435455 = num d) := ⟨by rw [and28 _ hbd.1 (by omega)]; have := num_mod cd hcdb 28 (by omega); rw [hcdl] at this; rw [hd]; exact this⟩
  obtain ⟨x, hx⟩ : ∃ x, x = num cd := ⟨_, rfl⟩
  rw [← hx] at hsh han hbd KP
  have hbx := Aside0.mk hbd
  clear hC hle hpick ht hcd hcdb hcdl hkb h8 hb hc hd hx hbd
  go_enter Tryd.func64, Tryd.ntmps64
  go_upto_region 2 with fail
  obtain ⟨z16, hz16⟩ : ∃ z : List Int, z = List.replicate 16 0 := ⟨_, rfl⟩
  have hz : (Obj.cells #[Value.int .u64 0, Value.int .u64 0, Value.int .u64 0, Value.int .u64 0, Value.int .u64 0, Value.int .u64 0, Value.int .u64 0, Value.int .u64 0, Value.int .u64 0, Value.int .u64 0, Value.int .u64 0, Value.int .u64 0, Value.int .u64 0, Value.int .u64 0, Value.int .u64 0, Value.int .u64 0] 70) = Obj.cells (nums .u64 z16).toArray 70 := by rw [hz16]; rfl
  rw [hz]
  have B0 : Blk (w.alloc (.cells (nums .u8 [k0, k1, k2, k3, k4, k5, k6, k7]).toArray 38)) w.heap.size .u8 38 [k0, k1, k2, k3, k4, k5, k6, k7] := blk_new w _
  have B1 : Blk ((w.alloc (.cells (nums .u8 [k0, k1, k2, k3, k4, k5, k6, k7]).toArray 38)).alloc (.cells (nums .u64 z16).toArray 70)) (w.heap.size + 1) .u64 70 z16 := by have := blk_new (w.alloc (.cells (nums .u8 [k0, k1, k2, k3, k4, k5, k6, k7]).toArray 38)) (.cells (nums .u64 z16).toArray 70); simpa [Blk] using this
  have B2 : Blk (((w.alloc (.cells (nums .u8 [k0, k1, k2, k3, k4, k5, k6, k7]).toArray 38)).alloc (.cells (nums .u64 z16).toArray 70)).alloc (.cells (nums .u64 z16).toArray 70)) (w.heap.size + 1 + 1) .u64 70 z16 := by have := blk_new ((w.alloc (.cells (nums .u8 [k0, k1, k2, k3, k4, k5, k6, k7]).toArray 38)).alloc (.cells (nums .u64 z16).toArray 70)) (.cells (nums .u64 z16).toArray 70); simpa [Blk] using this
  have BB : Below w.heap.size w (((w.alloc (.cells (nums .u8 [k0, k1, k2, k3, k4, k5, k6, k7]).toArray 38)).alloc (.cells (nums .u64 z16).toArray 70)).alloc (.cells (nums .u64 z16).toArray 70)) := (((Below.refl _ _).alloc (Nat.le_refl _) _).alloc (by simp) _).alloc (by simp; omega) _
  replace B0 := (B0.alloc (.cells (nums .u64 z16).toArray 70)).alloc (.cells (nums .u64 z16).toArray 70)
  replace B1 := B1.alloc (.cells (nums .u64 z16).toArray 70)
  obtain ⟨W, hW⟩ : ∃ W, W = (((w.alloc (.cells (nums .u8 [k0, k1, k2, k3, k4, k5, k6, k7]).toArray 38)).alloc (.cells (nums .u64 z16).toArray 70)).alloc (.cells (nums .u64 z16).toArray 70)) := ⟨_, rfl⟩
  rw [← hW] at B0 B1 B2 BB ⊢
  clear hW hz
  have hcellW := (BB.cell hlt).trans hcell
  have hb0 := B0.lt
  have hltW : 3 < W.heap.size := World.block_lt_of_cell? W _ hcellW
  have HC1W := Aside0.mk (Kd.C_below HC1.out BB)
  have N1 := Aside0.mk B1
  have N2 := Aside0.mk B2
  have NB := Aside0.mk BB
  have hsz := BB.size
  have q0 := B0.cell 0 (by simp)
  have q1 := B0.cell 1 (by simp)
  have q2 := B0.cell 2 (by simp)
  have q3 := B0.cell 3 (by simp)
  have q4 := B0.cell 4 (by simp)
  have q5 := B0.cell 5 (by simp)
  have q6 := B0.cell 6 (by simp)
  have q7 := B0.cell 7 (by simp)
  simp only [nth, List.getD_cons_zero, List.getD_cons_succ] at q0 q1 q2 q3 q4 q5 q6 q7
  clear B0 B1 B2 BB hcell HC1
  go_cut [4] from 9 (fun s4 wc => s4 = .int .u64 x ∧ Aside0 (Blk wc (w.heap.size + 1) .u64 70 z16) ∧ Aside0 (Blk wc (w.heap.size + 1 + 1) .u64 70 z16) ∧ Aside0 (Below w.heap.size w wc))
  case first =>
    have HW0 : Aside0 (Below W.heap.size W W) := ⟨Below.refl _ _⟩
    go_region_with (first | (go_at_call 57; go_must (refine (KN.out _).mono ?_; rintro e w1 ⟨rfl, hb1⟩; have hcellW1 := (hb1.cell (World.block_lt_of_cell? _ _ hcellW)).trans hcellW; have HB1 := Aside0.mk (below_then (below_drew1 (Below.refl W.heap.size W)) (Nat.le_refl _) hb1); clear hb1)) | (go_at_call 65; go_must (refine (KP.out _ (Kd.C_below HC1W.out HB1.out)).mono ?_; rintro e w2 ⟨rfl, hd2⟩; have HD2 := Aside0.mk (below_then HB1.out HB1.out.size hd2.below); clear hd2)))
    all_goals go_wp2
    all_goals go_meet
    all_goals (case rel => exact ⟨rfl, ⟨N1.out.below HD2.out⟩, ⟨N2.out.below HD2.out⟩, ⟨below_step NB.out HD2.out⟩⟩)
  case rest =>
    obtain ⟨rfl, H1, H2, H3⟩ := hcut
    have hsh1 := hsh.out
    have han1 := han.out
    have hbx1 := hbx.out
    clear KN KP N1 N2 NB HC1W q0 q1 q2 q3 q4 q5 q6 q7 hcellW
    have hrT := Aside0.mk (rangeAt_below HT.out.turns H3.out)
    have ht16 : Aside0 ((nums .i64 (turnsL.map fun (n : Nat) => (n : Int))).length = 16) := ⟨rfl⟩
    go_wp2_with (with_reducible refine wpList_load_mid rfl 77 (.global 4) rfl 4 0 rfl (nums .i64 (turnsL.map fun (n : Nat) => (n : Int))) _ hrT.out Tryd.underlying77 rfl (by rw [info77, ht16.out]) ?_)
    have HT2 := Aside0.mk (HT.out.below H3.out)
    go_loopw [5, 6, 7, 8, 19] (fun v5 v6 v7 v8 v19 wr => ∃ i : Nat, i ≤ 16 ∧ v19 = .int .i64 i ∧ v5 = .int .u64 (num (turnsTo (turnsL.take i) c)) ∧ v6 = .int .u64 (num (turnsTo (turnsL.take i) d)) ∧ Aside0 (Blk wr (w.heap.size + 1) .u64 70 z16) ∧ Aside0 (Blk wr (w.heap.size + 1 + 1) .u64 70 (keyOut c d i)) ∧ Aside0 (Below w.heap.size w wr))
      (fun _ _ _ _ v19 _ => 16 - (intOf v19).toNat)
    case atStart => exact ⟨0, by omega, rfl, rfl, rfl, H1, ⟨by have h_ := H2.out; rw [hz16] at h_; exact h_⟩, H3⟩
    case round =>
      obtain ⟨i, hi, rfl, rfl, rfl, G1, G2, G3⟩ := hrel
      by_cases hlt : i < 16
      · have hidx := run_index_nums (P := Tryd.prog) Tryd.underlying77 Tryd.underlying3 size3 (turnsL.map fun (n : Nat) => (n : Int)) i rfl hlt
        have hnth : nth (turnsL.map fun (n : Nat) => (n : Int)) i = (turnAt i : Int) := by
          have : ∀ j : Fin 16, nth (turnsL.map fun (n : Nat) => (n : Int)) j.val = (turnAt j.val : Int) := by decide
          exact this ⟨i, hlt⟩
        rw [hnth] at hidx
        clear hnth
        have hst := Aside0.mk (keyOut_step c d i hlt)
        have hgc := turnsTo_good (turnsL.take i) c hC1.out.1
        have hgd := turnsTo_good (turnsL.take i) d hD1.out.1
        rw [hC1.out.2] at hgc
        rw [hD1.out.2] at hgd
        have htc := turn_num _ hgc.1 hgc.2 (turnAt i) (turnAt_12 i hlt)
        have htd := turn_num _ hgd.1 hgd.2 (turnAt i) (turnAt_12 i hlt)
        have hbc := num_bound _ hgc.1
        have hbd := num_bound _ hgd.1
        rw [hgc.2] at hbc
        rw [hgd.2] at hbd
        have htk := turns_take i hlt
        have ec : turnsTo (turnsL.take (i + 1)) c = turnB (turnAt i) (turnsTo (turnsL.take i) c) := by rw [htk, turnsTo_snoc]
        have ed : turnsTo (turnsL.take (i + 1)) d = turnB (turnAt i) (turnsTo (turnsL.take i) d) := by rw [htk, turnsTo_snoc]
        have hgc1 := And.intro (turnB_bits hgc.1 (turnAt i)) ((turnB_length (turnAt i) _).trans hgc.2)
        have hgd1 := And.intro (turnB_bits hgd.1 (turnAt i)) ((turnB_length (turnAt i) _).trans hgd.2)
        have hcdn := cd_num _ _ hgc1.1 hgd1.1 hgc1.2 hgd1.2
        have hbc1 := num_bound _ hgc1.1
        rw [hgc1.2] at hbc1
        have hHT := HT.out.below G3.out
        obtain ⟨A5, c5, hcell5, hle5, hC5⟩ := hHT.pc2
        have hl56 : (turnB (turnAt i) (turnsTo (turnsL.take i) c) ++ turnB (turnAt i) (turnsTo (turnsL.take i) d)).length = 56 := by rw [List.length_append, hgc1.2, hgd1.2]
        have hpick := impl_pick_eq _ tPC2 (hgc1.1.append hgd1.1) (by rw [hl56]; omega) (by decide) (by rw [hl56]; exact within_pc2) 100 (by decide)
        rw [hl56] at hpick
        have KP := Aside0.mk (fun (w1 : World) (hC1 : Kd.C (Kd.int .u8) w1 A5 tPC2.length tPC2) => impl_pick_byte.calls 100 _ 56 A5 c5 tPC2 _ w1 hC1 hle5 hpick)
        have HC5 := Aside0.mk hC5
        have q1 := G2.out.free i
        have hq2 := G2.out.lt
        have hq := keyOut_length c d i hi
        have hG2c := G2.out.cell i (by rw [hq]; exact hlt)
        have hn := turnAt_12 i hlt
        obtain ⟨rr, hrr⟩ : ∃ rr, rr = num (pickB (turnB (turnAt i) (turnsTo (turnsL.take i) c) ++ turnB (turnAt i) (turnsTo (turnsL.take i) d)) tPC2) := ⟨_, rfl⟩
        obtain ⟨y2, hy2⟩ : ∃ y, y = num (turnB (turnAt i) (turnsTo (turnsL.take i) c) ++ turnB (turnAt i) (turnsTo (turnsL.take i) d)) := ⟨_, rfl⟩
        rw [← hrr] at hst KP
        rw [← hy2] at hcdn KP
        clear hpick hl56 hle5 hC5 hHT hrr hy2 htk hgc hgd hgc1 hgd1 hq
        obtain ⟨x5, hx5⟩ : ∃ y, y = num (turnsTo (turnsL.take i) c) := ⟨_, rfl⟩
        obtain ⟨x6, hx6⟩ : ∃ y, y = num (turnsTo (turnsL.take i) d) := ⟨_, rfl⟩
        obtain ⟨y5, hy5⟩ : ∃ y, y = num (turnB (turnAt i) (turnsTo (turnsL.take i) c)) := ⟨_, rfl⟩
        obtain ⟨y6, hy6⟩ : ∃ y, y = num (turnB (turnAt i) (turnsTo (turnsL.take i) d)) := ⟨_, rfl⟩
        have EY5 : Aside0 (num (turnsTo (turnsL.take (i + 1)) c) = y5) := ⟨by rw [ec, hy5]⟩
        have EY6 : Aside0 (num (turnsTo (turnsL.take (i + 1)) d) = y6) := ⟨by rw [ed, hy6]⟩
        rw [← hx5] at htc hbc ⊢
        rw [← hx6] at htd hbd ⊢
        rw [← hy5] at htc hcdn hbc1
        rw [← hy6] at htd hcdn
        clear hx5 hx6 ec ed hy5 hy6
        obtain ⟨hb50, hb51⟩ := hbc
        obtain ⟨hb60, hb61⟩ := hbd
        obtain ⟨hb70, hb71⟩ := hbc1
        rcases hn with hn | hn
        all_goals
          rw [hn] at hidx htc htd
          have e28 : (2 : Int) ^ 28 = 268435456 := rfl
          rw [e28] at hb51 hb61 hb71
          clear e28
          first | rw [show (2 : Int) ^ 1 = 2 from rfl, show (2 : Int) ^ (28 - 1) = 134217728 from rfl] at htc htd | rw [show (2 : Int) ^ 2 = 4 from rfl, show (2 : Int) ^ (28 - 2) = 67108864 from rfl] at htc htd
          go_wp2
          go_quiet (fail)
          go_wp2
          go_quiet (fail)
          clear htc htd hidx hsh1 han1
          go_wp2_with (go_at_call 65; go_must (refine (KP.out _ ?cc).mono ?_; (case cc => exact HC5.out); rintro e w2 ⟨rfl, ⟨nd, rfl⟩⟩))
          go_roundw
          case rel =>
            refine ⟨i + 1, by omega, by go_num, by rw [EY5.out], by rw [EY6.out], ⟨(G1.out.below (pw_below_drewN (Below.refl _ _) _)).far (p := ⟨w.heap.size + 1 + 1, i, none⟩) (by simp) _⟩, ⟨?_⟩, ⟨(pw_below_drewN G3.out _).setCell (p := ⟨w.heap.size + 1 + 1, i, none⟩) (by simp; omega) _⟩⟩
            rw [← hst.out]
            exact (G2.out.below (pw_below_drewN (Below.refl _ _) _)).set i rr
          case measure => simp [intOf]; omega
      · obtain rfl : i = 16 := by omega
        have HL16 := Aside0.mk (keyOut_length c d 16 (Nat.le_refl _))
        have HZ16 : Aside0 (z16.length = 16) := ⟨by rw [hz16]; rfl⟩
        have HA := Aside0.mk (keyOut_all c d)
        clear hsh1 han1 hz16
        go_wp2_with (first | (with_reducible refine wpList_load_blk rfl 70 (.tmp 3) rfl (w.heap.size + 1 + 1) rfl Tryd.underlying70 info70 G2.out HL16.out ?_) | (with_reducible refine wpList_store_blk rfl 70 (.tmp 2) (.tmp 50) rfl (w.heap.size + 1) rfl info70 rfl G1.out HZ16.out HL16.out ?_))
        rw [← HA.out]
        refine bodyPost_ret (results_blk rfl _ _ (w.heap.size + 1) Tryd.underlying70 info70 rfl (G1.out.setRow _) HL16.out) rfl ⟨rfl, below_setRow G3.out (by omega) _⟩
end Go.Proofs.YtbjlpdfhjapbkaaDoor

namespace Go.Proofs.YtbjlpdfhjapbkaaDoor
open Go.RowKit Go.Proofs.YtbjlpdfhjapbkaaDoorW.PrintWords Go.Proofs.YtbjlpdfhjapbkaaDoorW.PrintLast Go.Proofs.YtbjlpdfhjapbkaaDoorW.PrintMore Go.Proofs.YtbjlpdfhjapbkaaDoor.D Go.Proofs.YtbjlpdfhjapbkaaDoor.B
set_option linter.unusedVariables false

theorem dir_key (dec : Bool) (ks : List (List Int)) (hl : ks.length = 16) (hg : ∀ k ∈ ks, Bits k ∧ k.length = 48) (i : Nat) (hi : i < 16) :
    ∃ kk, (dirB dec ks).take (i + 1) = (dirB dec ks).take i ++ [kk] ∧ Bits kk ∧ kk.length = 48 ∧ num kk = (if dec = true then nth (ks.map num) (15 - i) else nth (ks.map num) i) := by
  have hdl : (dirB dec ks).length = 16 := by unfold dirB; split <;> simp [hl]
  have hm : (dirB dec ks)[i]'(by omega) ∈ dirB dec ks := List.getElem_mem _
  have hd := dirB_good (dec := dec) hg _ hm
  refine ⟨(dirB dec ks)[i]'(by omega), List.take_succ_eq_append_getElem (by omega), hd.1, hd.2, ?_⟩
  have e1 : ∀ j, (hj : j < 16) → nth (ks.map num) j = num (ks[j]'(by omega)) := by
    intro j hj
    rw [nth_at _ _ (by rw [List.length_map]; omega), List.getElem_map]
  rw [e1 _ (by omega), e1 _ hi]
  cases dec
  · simp only [Bool.false_eq_true, if_false]
    rfl
  · simp only [if_true]
    congr 1
    show ks.reverse[i]'(by simp [hl]; omega) = _
    rw [List.getElem_reverse]
    congr 1
    omega
set_option maxHeartbeats 4000000 in
theorem impl_des.calls (key block : List Int) (dec : Bool) (w : World) (hk : key.length = 8) (hkb : Bytes key) (h8 : block.length = 8) (hb : Bytes block) (ht : Tab w) :
    Calls Tryd.prog 36 #[.agg (nums .u8 key).toArray, .agg (nums .u8 block).toArray, .bool dec] w fun e w' => e = .returned (.agg (nums .u8 (desL key block dec)).toArray) ∧ Below w.heap.size w w' := by
  obtain ⟨k0, k1, k2, k3, k4, k5, k6, k7, t, rfl⟩ := list8 (l := block) (by omega)
  obtain rfl : t = [] := List.length_eq_zero_iff.1 (by simpa using h8)
  have HT := Aside0.mk ht
  have HK := Aside0.mk hk
  have KN := Aside0.mk (fun (w1 : World) => impl_number.calls [k0, k1, k2, k3, k4, k5, k6, k7] w1 h8 hb)
  have KR := Aside0.mk (fun (w1 : World) => impl_roundKeys.calls key w1 hk hkb)
  have hk64 : (bitsOf [k0, k1, k2, k3, k4, k5, k6, k7]).length = 64 := by rw [bitsOf_length, h8]
  have hpick := impl_pick_eq (bitsOf [k0, k1, k2, k3, k4, k5, k6, k7]) tIP (bitsOf_bits _) (by rw [hk64]; omega) (by decide) (by rw [hk64]; exact within_ip) 100 (by decide)
  rw [hk64] at hpick
  obtain ⟨A1, c1, hcell, hle, hC⟩ := HT.out.ip
  have KP := Aside0.mk (fun (w1 : World) (hC1 : Kd.C (Kd.int .u8) w1 A1 tIP.length tIP) => impl_pick_byte.calls 100 (num (bitsOf [k0, k1, k2, k3, k4, k5, k6, k7])) 64 A1 c1 tIP _ w1 hC1 hle hpick)
  have hlt := World.block_lt_of_cell? w _ hcell
  have HC1 := Aside0.mk hC
  have HLE1 := Aside0.mk hle
  have hcellw := Aside0.mk hcell
  obtain ⟨bb, hbb⟩ : ∃ bb, bb = bitsOf [k0, k1, k2, k3, k4, k5, k6, k7] := ⟨_, rfl⟩
  have HBB : Aside0 (bb = bitsOf [k0, k1, k2, k3, k4, k5, k6, k7] ∧ Bits bb ∧ bb.length = 64) := ⟨hbb, hbb ▸ bitsOf_bits _, hbb ▸ hk64⟩
  clear hk hkb h8 hb ht hk64 hpick hC hcell hle hbb
  go_enter Tryd.func36, Tryd.ntmps36
  have B0 : Blk (w.alloc (.cells (nums .u8 key).toArray 38)) w.heap.size .u8 38 key := blk_new w _
  have B1 : Blk ((w.alloc (.cells (nums .u8 key).toArray 38)).alloc (.cells (nums .u8 [k0, k1, k2, k3, k4, k5, k6, k7]).toArray 38)) (w.heap.size + 1) .u8 38 [k0, k1, k2, k3, k4, k5, k6, k7] := by
    have h_ := blk_new (w.alloc (.cells (nums .u8 key).toArray 38)) (.cells (nums .u8 [k0, k1, k2, k3, k4, k5, k6, k7]).toArray 38)
    simpa [Blk] using h_
  have BW : Below w.heap.size w (((w.alloc (.cells (nums .u8 key).toArray 38)).alloc (.cells (nums .u8 [k0, k1, k2, k3, k4, k5, k6, k7]).toArray 38)).alloc (.cells #[.int .u8 0, .int .u8 0, .int .u8 0, .int .u8 0, .int .u8 0, .int .u8 0, .int .u8 0, .int .u8 0] 38)) := (((Below.refl _ _).alloc (Nat.le_refl _) _).alloc (by simp) _).alloc (by simp; omega) _
  have B2 : Blk (((w.alloc (.cells (nums .u8 key).toArray 38)).alloc (.cells (nums .u8 [k0, k1, k2, k3, k4, k5, k6, k7]).toArray 38)).alloc (.cells #[.int .u8 0, .int .u8 0, .int .u8 0, .int .u8 0, .int .u8 0, .int .u8 0, .int .u8 0, .int .u8 0] 38)) (w.heap.size + 1 + 1) .u8 38 [0, 0, 0, 0, 0, 0, 0, 0] := by
    have h_ := blk_new ((w.alloc (.cells (nums .u8 key).toArray 38)).alloc (.cells (nums .u8 [k0, k1, k2, k3, k4, k5, k6, k7]).toArray 38)) (.cells #[.int .u8 0, .int .u8 0, .int .u8 0, .int .u8 0, .int .u8 0, .int .u8 0, .int .u8 0, .int .u8 0] 38)
    simpa [Blk, nums] using h_
  have B01 := Aside0.mk ((B0.alloc (.cells (nums .u8 [k0, k1, k2, k3, k4, k5, k6, k7]).toArray 38)).alloc (.cells #[.int .u8 0, .int .u8 0, .int .u8 0, .int .u8 0, .int .u8 0, .int .u8 0, .int .u8 0, .int .u8 0] 38))
  have B11 := Aside0.mk (B1.alloc (.cells #[.int .u8 0, .int .u8 0, .int .u8 0, .int .u8 0, .int .u8 0, .int .u8 0, .int .u8 0, .int .u8 0] 38))
  have B21 := Aside0.mk B2
  have BW1 := Aside0.mk BW
  clear B0 B1 B2 BW
  have HKS : Aside0 (((keysB key).map num).length = 16) := ⟨by rw [List.length_map, keysB_length]⟩
  obtain ⟨ks, hks⟩ : ∃ ks, ks = keysB key := ⟨_, rfl⟩
  have HKG : Aside0 (ks = keysB key ∧ (∀ k ∈ ks, Bits k ∧ k.length = 48) ∧ ks.length = 16) := ⟨hks, hks ▸ keysB_good key, hks ▸ keysB_length key⟩
  rw [← hks] at KR HKS
  clear hks
  go_upto_region 2 with (first | ((with_reducible refine wpList_load_blk rfl 38 (.tmp 3) rfl w.heap.size rfl Tryd.underlying38 info8 B01.out HK.out ?_)) | (go_at_call 64; go_must (refine (KR.out _ ?tt).mono ?_; (case tt => exact HT.out.below BW1.out); rintro e w1 ⟨rfl, hb1⟩; have HN : Aside0 (Blk (w1.alloc (.cells #[.int .u64 0, .int .u64 0, .int .u64 0, .int .u64 0, .int .u64 0, .int .u64 0, .int .u64 0, .int .u64 0, .int .u64 0, .int .u64 0, .int .u64 0, .int .u64 0, .int .u64 0, .int .u64 0, .int .u64 0, .int .u64 0] 70)) w1.heap.size .u64 70 (List.replicate 16 0)) := ⟨blk_new w1 (.cells (nums .u64 (List.replicate 16 0)).toArray 70)⟩; have F1 := Aside0.mk (HN.out.setRow (ks.map num)); have h11 := B11.out.below hb1; have h21 := B21.out.below hb1; have hbw := below_step BW1.out hb1; have l11 := h11.lt; have l21 := h21.lt; have F2 := Aside0.mk ((h11.alloc (.cells #[.int .u64 0, .int .u64 0, .int .u64 0, .int .u64 0, .int .u64 0, .int .u64 0, .int .u64 0, .int .u64 0, .int .u64 0, .int .u64 0, .int .u64 0, .int .u64 0, .int .u64 0, .int .u64 0, .int .u64 0, .int .u64 0] 70)).setRow_far (g' := w1.heap.size) (by omega) (nums .u64 (ks.map num)).toArray); have F3 := Aside0.mk ((h21.alloc (.cells #[.int .u64 0, .int .u64 0, .int .u64 0, .int .u64 0, .int .u64 0, .int .u64 0, .int .u64 0, .int .u64 0, .int .u64 0, .int .u64 0, .int .u64 0, .int .u64 0, .int .u64 0, .int .u64 0, .int .u64 0, .int .u64 0] 70)).setRow_far (g' := w1.heap.size) (by omega) (nums .u64 (ks.map num)).toArray); have F4 := Aside0.mk (below_setRow (g := w1.heap.size) (hbw.alloc hbw.size (.cells #[.int .u64 0, .int .u64 0, .int .u64 0, .int .u64 0, .int .u64 0, .int .u64 0, .int .u64 0, .int .u64 0, .int .u64 0, .int .u64 0, .int .u64 0, .int .u64 0, .int .u64 0, .int .u64 0, .int .u64 0, .int .u64 0] 70)) hbw.size (nums .u64 (ks.map num)).toArray); clear h11 h21 hbw hb1 B01 B11 B21 BW1)) | (with_reducible refine wpList_store_blk rfl 70 (.tmp 7) (.tmp 14) rfl w1.heap.size rfl info70 rfl HN.out (by simp) HKS.out ?_))
  obtain ⟨W, hW⟩ : ∃ W, W = (w1.alloc (.cells #[.int .u64 0, .int .u64 0, .int .u64 0, .int .u64 0, .int .u64 0, .int .u64 0, .int .u64 0, .int .u64 0, .int .u64 0, .int .u64 0, .int .u64 0, .int .u64 0, .int .u64 0, .int .u64 0, .int .u64 0, .int .u64 0] 70)).setRow w1.heap.size (nums .u64 (ks.map num)).toArray := ⟨_, rfl⟩
  rw [← hW] at F1 F2 F3 F4 ⊢
  clear hW HN
  obtain ⟨gk, hgk⟩ : ∃ gk, gk = w1.heap.size := ⟨_, rfl⟩
  rw [← hgk] at F1 ⊢
  clear hgk
  have hb0 := F2.out.lt
  have hcellW := (F4.out.cell hlt).trans hcellw.out
  have HC1W := Aside0.mk (Kd.C_below HC1.out F4.out)
  have q0 := F2.out.cell 0 (by simp)
  have q1 := F2.out.cell 1 (by simp)
  have q2 := F2.out.cell 2 (by simp)
  have q3 := F2.out.cell 3 (by simp)
  have q4 := F2.out.cell 4 (by simp)
  have q5 := F2.out.cell 5 (by simp)
  have q6 := F2.out.cell 6 (by simp)
  have q7 := F2.out.cell 7 (by simp)
  simp only [nth, List.getD_cons_zero, List.getD_cons_succ] at q0 q1 q2 q3 q4 q5 q6 q7
  (try go_simp)
  go_cut [8] from 13 (fun s8 wc => s8 = .int .u64 (num (pickB bb tIP)) ∧ Aside0 (Blk wc gk .u64 70 (ks.map num)) ∧ Aside0 (Blk wc (w.heap.size + 1 + 1) .u8 38 [0, 0, 0, 0, 0, 0, 0, 0]) ∧ Aside0 (Below w.heap.size w wc))
  case first =>
    go_region_with (first | (go_at_call 57; go_must (refine (KN.out _).mono ?_; rintro e w1 ⟨rfl, hb1⟩; have hcellW1 := (hb1.cell (World.block_lt_of_cell? _ _ hcellW)).trans hcellW; have HB1 := Aside0.mk (below_then (below_drew1 (Below.refl W.heap.size W)) (Nat.le_refl _) hb1); clear hb1)) | (go_at_call 65; go_must (refine (KP.out _ (Kd.C_below HC1W.out HB1.out)).mono ?_; rintro e w2 ⟨rfl, hd2⟩; have HD2 := Aside0.mk (below_then HB1.out HB1.out.size hd2.below); clear hd2)))
    all_goals go_wp2
    all_goals go_meet
    all_goals (case rel => exact ⟨by rw [HBB.out.1], ⟨F1.out.below HD2.out⟩, ⟨F3.out.below HD2.out⟩, ⟨below_step F4.out HD2.out⟩⟩)
  case rest =>
    obtain ⟨rfl, H1, H2, H3⟩ := hcut
    obtain ⟨vb, hvb⟩ : ∃ vb, vb = pickB bb tIP := ⟨_, rfl⟩
    rw [← hvb]
    have hvbb : Bits vb := hvb ▸ pickB_bits HBB.out.2.1 _
    have hvbl : vb.length = 64 := by rw [hvb, pickB_length]; rfl
    have hbd := num_bound vb hvbb
    rw [hvbl] at hbd
    have hsh : num vb / 4294967296 = num (vb.take 32) := by have := num_div vb hvbb 32 (by omega); rw [hvbl] at this; exact this
    have han : Go.bits .and .u64 (num vb) 4294967295 = num (vb.drop 32) := by rw [and32 _ hbd.1 hbd.2]; have := num_mod vb hvbb 32 (by omega); rw [hvbl] at this; exact this
    obtain ⟨l0, hl0⟩ : ∃ l0, l0 = vb.take 32 := ⟨_, rfl⟩
    obtain ⟨r0, hr0⟩ : ∃ r0, r0 = vb.drop 32 := ⟨_, rfl⟩
    have HP0 : Aside0 (l0.length = 32 ∧ r0.length = 32 ∧ Bits l0 ∧ Bits r0) := ⟨by rw [hl0, hr0]; exact ⟨by rw [List.length_take]; omega, by rw [List.length_drop]; omega, hvbb.take _, hvbb.drop _⟩⟩
    have HE0 : Aside0 (unbits (pickB ((feist (dirB dec ks) (l0, r0)).2 ++ (feist (dirB dec ks) (l0, r0)).1) tINV) = desL key [k0, k1, k2, k3, k4, k5, k6, k7] dec) := ⟨by rw [hl0, hr0, hvb, HBB.out.1, HKG.out.1]; rfl⟩
    rw [← hl0] at hsh
    rw [← hr0] at han
    obtain ⟨x, hx⟩ : ∃ x, x = num vb := ⟨_, rfl⟩
    rw [← hx] at hsh han hbd ⊢
    obtain ⟨hbd0, hbd1⟩ := hbd
    clear hvb hvbb hvbl hl0 hr0 hx KN KP q0 q1 q2 q3 q4 q5 q6 q7 hcellW HC1W F1 F2 F3 F4 KR
    obtain ⟨dks, hdks⟩ : ∃ dks, dks = dirB dec ks := ⟨_, rfl⟩
    have HDK : Aside0 (dks = dirB dec ks) := ⟨hdks⟩
    clear hdks
    go_wp2
    go_loopw [9, 10, 11, 12, 23] (fun v9 v10 v11 v12 v23 wr => ∃ i : Nat, i ≤ 16 ∧ v23 = .int .i64 i ∧ v9 = .int .u64 (num (feist (dks.take i) (l0, r0)).1) ∧ v10 = .int .u64 (num (feist (dks.take i) (l0, r0)).2) ∧ Aside0 (Blk wr gk .u64 70 (ks.map num)) ∧ Aside0 (Blk wr (w.heap.size + 1 + 1) .u8 38 [0, 0, 0, 0, 0, 0, 0, 0]) ∧ Aside0 (Below w.heap.size w wr))
      (fun _ _ _ _ v23 _ => 16 - (intOf v23).toNat)
    case atStart => exact ⟨0, by omega, rfl, rfl, rfl, H1, H2, H3⟩
    case round =>
      obtain ⟨i, hi, rfl, rfl, rfl, G1, G2, G3⟩ := hrel
      clear hsh han
      by_cases hlt : i < 16
      · obtain ⟨kk, t1, t2, t3, t4⟩ := dir_key dec ks HKG.out.2.2 HKG.out.2.1 i hlt
        rw [← HDK.out] at t1
        obtain ⟨g1, g2, g3, g4⟩ := feist_good (dks.take i) (l0, r0) HP0.out.1 HP0.out.2.1 HP0.out.2.2.1 HP0.out.2.2.2
        have hf : feist (dks.take (i + 1)) (l0, r0) = ((feist (dks.take i) (l0, r0)).2, xorB (feist (dks.take i) (l0, r0)).1 (roundB (feist (dks.take i) (l0, r0)).2 kk)) := by rw [t1, feist_append]; rfl
        have HF := Aside0.mk hf
        clear hf t1
        obtain ⟨pl, hpl⟩ : ∃ pl, pl = (feist (dks.take i) (l0, r0)).1 := ⟨_, rfl⟩
        obtain ⟨pr, hpr⟩ : ∃ pr, pr = (feist (dks.take i) (l0, r0)).2 := ⟨_, rfl⟩
        rw [← hpl] at g1 g3 HF ⊢
        rw [← hpr] at g2 g4 HF ⊢
        clear hpl hpr
        have hx1 := xor_num (pickB pr tE) kk (by rw [pickB_length, t3]; rfl) (by rw [pickB_length]; decide) (pickB_bits g4 _) t2
        have hbits1 := xorB_bits (pickB pr tE) kk
        have hlen1 : (xorB (pickB pr tE) kk).length = 48 := by rw [xorB_length _ _ (by rw [pickB_length, t3]; rfl), pickB_length]; rfl
        have hx2 := xor_num pl (roundB pr kk) (by rw [roundB_length, g1]) (by omega) g3 (roundB_bits pr kk)
        have hpick := impl_pick_eq pr tE g4 (by omega) (by decide) (by rw [g2]; exact within_e) 100 (by decide)
        rw [g2] at hpick
        have hHT := HT.out.below G3.out
        obtain ⟨A2, c2, hcell2, hle2, hC2⟩ := hHT.e
        have KP := Aside0.mk (fun (w1 : World) (hC1 : Kd.C (Kd.int .u8) w1 A2 tE.length tE) => impl_pick_byte.calls 100 (num pr) 32 A2 c2 tE _ w1 hC1 hle2 hpick)
        have KB := Aside0.mk (fun (w1 : World) (h : Tab w1) => impl_boxed.calls (xorB (pickB pr tE) kk) w1 hbits1 hlen1 h)
        have HC2 := Aside0.mk hC2
        have HTR := Aside0.mk hHT
        have hlk : (ks.map num).length = 16 := by rw [List.length_map]; exact HKG.out.2.2
        have hc1 := G1.out.cell i (by omega)
        have hc2 := G1.out.cell (15 - i) (by omega)
        have e15 : (15 - (i : Int)).toNat = 15 - i := by omega
        obtain ⟨nr, hnr⟩ : ∃ n, n = num pr := ⟨_, rfl⟩
        obtain ⟨nl, hnl⟩ : ∃ n, n = num pl := ⟨_, rfl⟩
        obtain ⟨nk, hnk⟩ : ∃ n, n = num kk := ⟨_, rfl⟩
        obtain ⟨n2, hn2⟩ : ∃ n, n = num (xorB pl (roundB pr kk)) := ⟨_, rfl⟩
        have HN2 : Aside0 (nr = num (feist (dks.take (i + 1)) (l0, r0)).1 ∧ n2 = num (feist (dks.take (i + 1)) (l0, r0)).2) := ⟨by rw [HF.out]; exact ⟨hnr, hn2⟩⟩
        obtain ⟨nx, hnx⟩ : ∃ n, n = num (xorB (pickB pr tE) kk) := ⟨_, rfl⟩
        obtain ⟨ne, hne⟩ : ∃ n, n = num (pickB pr tE) := ⟨_, rfl⟩
        obtain ⟨nb, hnb⟩ : ∃ n, n = num (roundB pr kk) := ⟨_, rfl⟩
        have hrb : pickB (boxesB (xorB (pickB pr tE) kk)) tP = roundB pr kk := rfl
        rw [hrb, ← hnb, ← hnx] at KB
        rw [← hnr, ← hne] at KP
        rw [← hne, ← hnk, ← hnx] at hx1
        rw [← hnl, ← hnb, ← hn2] at hx2
        rw [← hnr, ← hnl]
        rw [← hnk] at t4
        clear hnr hnl hnk hn2 hnx hne hnb hrb hHT hle2 hC2 hbits1 hlen1 hpick g1 g2 g3 g4 t2 t3 hlk HF
        cases dec
        all_goals
          simp only [if_true, if_false, Bool.false_eq_true] at t4
          first | rw [← t4] at hc1 | rw [← t4] at hc2
          clear t4
          go_wp2_with (first | (go_at_call 65; go_must (refine (KP.out _ ?cc).mono ?_; (case cc => exact HC2.out); rintro e w2 ⟨rfl, ⟨nd, rfl⟩⟩)) | (go_at_call 66; go_must (refine (KB.out _ ?cc2).mono ?_; (case cc2 => exact HTR.out.below (pw_below_drewN (Below.refl _ _) _)); rintro e w2 ⟨rfl, ⟨nd2, rfl⟩⟩)))
          go_roundw
          case rel => exact ⟨i + 1, by omega, by go_num, by rw [← HN2.out.1], by rw [← HN2.out.2], ⟨G1.out.below (pw_below_drewN (Below.refl _ _) _)⟩, ⟨G2.out.below (pw_below_drewN (Below.refl _ _) _)⟩, ⟨pw_below_drewN G3.out _⟩⟩
          case measure => simp [intOf]; omega
      · obtain rfl : i = 16 := by omega
        have hdl : dks.length = 16 := by rw [HDK.out]; unfold dirB; split <;> simp [HKG.out.2.2]
        rw [← HDK.out] at HE0
        rw [List.take_of_length_le (by omega)]
        obtain ⟨g1, g2, g3, g4⟩ := feist_good dks (l0, r0) HP0.out.1 HP0.out.2.1 HP0.out.2.2.1 HP0.out.2.2.2
        obtain ⟨pl, hpl⟩ : ∃ pl, pl = (feist dks (l0, r0)).1 := ⟨_, rfl⟩
        obtain ⟨pr, hpr⟩ : ∃ pr, pr = (feist dks (l0, r0)).2 := ⟨_, rfl⟩
        rw [← hpl, ← hpr] at HE0
        rw [← hpl] at g1 g3 ⊢
        rw [← hpr] at g2 g4 ⊢
        clear hpl hpr hdl
        have hbl := num_bound pl g3
        have hbr := num_bound pr g4
        rw [g1] at hbl
        rw [g2] at hbr
        have hor : Go.bits .or .u64 (num pr * 4294967296) (num pl) = num (pr ++ pl) := by
          rw [num_append, g1]
          exact or_join (num pr) (num pl) 32 (by omega) hbr.1 hbl.1 hbl.2 (by omega)
        have hab : Bits (pr ++ pl) := g4.append g3
        have hal : (pr ++ pl).length = 64 := by rw [List.length_append]; omega
        have hpick := impl_pick_eq (pr ++ pl) tINV hab (by omega) (by decide) (by rw [hal]; exact within_inv) 100 (by decide)
        rw [hal] at hpick
        have hHT := HT.out.below G3.out
        obtain ⟨A2, c2, hcell2, hle2, hC2⟩ := hHT.ip
        have KI := Aside0.mk (fun (w1 : World) (hC1 : Kd.C (Kd.int .u8) w1 A2 tIP.length tIP) => impl_inverse.calls 100 A2 c2 tIP tINV w1 hC1 hle2 inverse_eq)
        have KP := Aside0.mk (fun (A : Option Addr) (c : Nat) (w1 : World) (hC1 : Kd.C (Kd.int .u8) w1 A tINV.length tINV) (hl : tINV.length ≤ c) => impl_pick_byte.calls 100 (num (pr ++ pl)) 64 A c tINV _ w1 hC1 hl hpick)
        have KO := Aside0.mk (fun (w1 : World) => impl_blockOf.calls (pickB (pr ++ pl) tINV) w1 (by rw [pickB_length]; rfl) (pickB_bits hab _))
        have HC2 := Aside0.mk hC2
        have HL : Aside0 ((unbits (pickB (pr ++ pl) tINV)).length = 8) := ⟨unbits_length 8 _ (by rw [pickB_length]; rfl)⟩
        obtain ⟨np, hnp⟩ : ∃ n, n = num (pr ++ pl) := ⟨_, rfl⟩
        obtain ⟨nl, hnl⟩ : ∃ n, n = num pl := ⟨_, rfl⟩
        obtain ⟨nr, hnr⟩ : ∃ n, n = num pr := ⟨_, rfl⟩
        obtain ⟨res, hres⟩ : ∃ n, n = unbits (pickB (pr ++ pl) tINV) := ⟨_, rfl⟩
        rw [← hnp] at KP hor
        rw [← hnl] at hbl hor ⊢
        rw [← hnr] at hbr hor ⊢
        rw [← hres] at KO HE0 HL
        clear hnp hnl hnr hres g1 g2 g3 g4 hab hal hpick hHT hle2 hC2
        obtain ⟨hl0_, hl1_⟩ := hbl
        obtain ⟨hr0_, hr1_⟩ := hbr
        have e32 : (2 : Int) ^ 32 = 4294967296 := rfl
        rw [e32] at hl1_ hr1_
        clear e32
        go_wp2_with (first | (go_at_call 67; go_must (refine (KI.out _ ?cc).mono ?_; (case cc => exact HC2.out); rintro e w2 ⟨v2, rfl, hR2, hb2⟩; obtain ⟨A3, c3, e3⟩ := Kd.R_slice hR2; subst e3; have HR2 := Aside0.mk (Kd.R_reads' hR2).2; have HB2 := Aside0.mk hb2; clear hR2 hb2)) | (go_at_call 65; go_must (refine (KP.out _ _ _ ?cc3 ?cc4).mono ?_; (case cc3 => exact HR2.out.2); (case cc4 => exact HR2.out.1); rintro e w3 ⟨rfl, ⟨nd, rfl⟩⟩)) | (go_at_call 59; go_must (refine (KO.out _).mono ?_; rintro e w4 ⟨rfl, hb4⟩; have HB4 := Aside0.mk (below_then HB2.out HB2.out.size (below_then (pw_below_drewN (Below.refl _ _) nd) (Nat.le_refl _) hb4)); have HZ := Aside0.mk (G2.out.below HB4.out); clear hb4)) | (with_reducible refine wpList_store_blk rfl 38 (.tmp 6) (.tmp 51) rfl (w.heap.size + 1 + 1) rfl info8 rfl HZ.out (by simp) HL.out ?_))
        rw [← HE0.out]
        refine bodyPost_ret (results_blk rfl _ _ (w.heap.size + 1 + 1) Tryd.underlying38 info8 rfl (HZ.out.setRow _) HL.out) rfl ⟨rfl, below_setRow (below_step G3.out HB4.out) (by omega) _⟩
end Go.Proofs.YtbjlpdfhjapbkaaDoor

namespace Go.Proofs.YtbjlpdfhjapbkaaDoor
open Go.RowKit Go.Proofs.YtbjlpdfhjapbkaaDoorW.PrintWords Go.Proofs.YtbjlpdfhjapbkaaDoorW.PrintLast Go.Proofs.YtbjlpdfhjapbkaaDoorW.PrintMore Go.Proofs.YtbjlpdfhjapbkaaDoor.D Go.Proofs.YtbjlpdfhjapbkaaDoor.B
set_option linter.unusedVariables false

theorem eight (l : List Int) (h : l.length = 8) : ∃ a b c d e f g i, l = [a, b, c, d, e, f, g, i] := by
  obtain ⟨k0, k1, k2, k3, k4, k5, k6, k7, t, rfl⟩ := list8 (l := l) (by omega)
  obtain rfl : t = [] := List.length_eq_zero_iff.1 (by simpa using h)
  exact ⟨_, _, _, _, _, _, _, _, rfl⟩
theorem cells8 {w : World} {A : Option Addr} {a b c d e f g i : Int} (h : Kd.C (Kd.int .u8) w A 8 [a, b, c, d, e, f, g, i]) :
    ∃ ad : Addr, A = some ad ∧ w.cell? ad = some (.int .u8 a) ∧ w.cell? ⟨ad.block, ad.off + 1, none⟩ = some (.int .u8 b) ∧ w.cell? ⟨ad.block, ad.off + 2, none⟩ = some (.int .u8 c) ∧ w.cell? ⟨ad.block, ad.off + 3, none⟩ = some (.int .u8 d) ∧ w.cell? ⟨ad.block, ad.off + 4, none⟩ = some (.int .u8 e) ∧ w.cell? ⟨ad.block, ad.off + 5, none⟩ = some (.int .u8 f) ∧ w.cell? ⟨ad.block, ad.off + 6, none⟩ = some (.int .u8 g) ∧ w.cell? ⟨ad.block, ad.off + 7, none⟩ = some (.int .u8 i) := by
  obtain ⟨ad, rfl, hc⟩ := C_cells (l := [a, b, c, d, e, f, g, i]) h (by simp)
  exact ⟨ad, rfl, hc 0 _ rfl, hc 1 _ rfl, hc 2 _ rfl, hc 3 _ rfl, hc 4 _ rfl, hc 5 _ rfl, hc 6 _ rfl, hc 7 _ rfl⟩

theorem array_at {P : Program} {t e : TypeId} {n m : Nat} (ht : P.underlying t = some (.array n e)) (h : n ≤ m) (A : Option Addr) (c : Nat) (w : World) : (Instr.arrayAt t (.slice A m c)).run P w = .ok (.pointer A) w := by
  have : ¬ m < n := by omega
  simp [Instr.arrayAt, run_underlying ht, this]
/-- Eight cells of a block, none frozen. -/
theorem blk8 {w : World} {g : Nat} {t : TypeId} {a b c d e f h i : Int} (hb : Blk w g .u8 t [a, b, c, d, e, f, h, i]) :
    (w.cell? ⟨g, 0, none⟩ = some (.int .u8 a) ∧ w.cell? ⟨g, 1, none⟩ = some (.int .u8 b) ∧ w.cell? ⟨g, 2, none⟩ = some (.int .u8 c) ∧ w.cell? ⟨g, 3, none⟩ = some (.int .u8 d) ∧ w.cell? ⟨g, 4, none⟩ = some (.int .u8 e) ∧ w.cell? ⟨g, 5, none⟩ = some (.int .u8 f) ∧ w.cell? ⟨g, 6, none⟩ = some (.int .u8 h) ∧ w.cell? ⟨g, 7, none⟩ = some (.int .u8 i)) ∧
    w.frozen? ⟨g, 0, none⟩ = false ∧ w.frozen? ⟨g, 1, none⟩ = false ∧ w.frozen? ⟨g, 2, none⟩ = false ∧ w.frozen? ⟨g, 3, none⟩ = false ∧ w.frozen? ⟨g, 4, none⟩ = false ∧ w.frozen? ⟨g, 5, none⟩ = false ∧ w.frozen? ⟨g, 6, none⟩ = false ∧ w.frozen? ⟨g, 7, none⟩ = false :=
  ⟨⟨hb.cell 0 (by simp), hb.cell 1 (by simp), hb.cell 2 (by simp), hb.cell 3 (by simp), hb.cell 4 (by simp), hb.cell 5 (by simp), hb.cell 6 (by simp), hb.cell 7 (by simp)⟩, hb.free 0, hb.free 1, hb.free 2, hb.free 3, hb.free 4, hb.free 5, hb.free 6, hb.free 7⟩
theorem blk8_new (w : World) {w1 : World} (hb : Below (w.alloc (.cells #[.int .u8 0, .int .u8 0, .int .u8 0, .int .u8 0, .int .u8 0, .int .u8 0, .int .u8 0, .int .u8 0] 38)).heap.size (w.alloc (.cells #[.int .u8 0, .int .u8 0, .int .u8 0, .int .u8 0, .int .u8 0, .int .u8 0, .int .u8 0, .int .u8 0] 38)) w1) : Blk w1 w.heap.size .u8 38 [0, 0, 0, 0, 0, 0, 0, 0] :=
  (show Blk (w.alloc (.cells #[.int .u8 0, .int .u8 0, .int .u8 0, .int .u8 0, .int .u8 0, .int .u8 0, .int .u8 0, .int .u8 0] 38)) w.heap.size .u8 38 [0, 0, 0, 0, 0, 0, 0, 0] from blk_new w (.cells (nums .u8 [0, 0, 0, 0, 0, 0, 0, 0]).toArray 38)).below hb
theorem blk_of8 (w : World) (r0 r1 r2 r3 r4 r5 r6 r7 : Int) : Blk (w.alloc (.cells #[.int .u8 r0, .int .u8 r1, .int .u8 r2, .int .u8 r3, .int .u8 r4, .int .u8 r5, .int .u8 r6, .int .u8 r7] 38)) w.heap.size .u8 38 [r0, r1, r2, r3, r4, r5, r6, r7] :=
  blk_new w (.cells (nums .u8 [r0, r1, r2, r3, r4, r5, r6, r7]).toArray 38)
theorem blk_set8 {w : World} {g : Nat} {t : TypeId} (h : Blk w g .u8 t [0, 0, 0, 0, 0, 0, 0, 0]) (r0 r1 r2 r3 r4 r5 r6 r7 : Int) :
    Blk ((((((((w.setCell ⟨g, 0, none⟩ (.int .u8 r0)).setCell ⟨g, 1, none⟩ (.int .u8 r1)).setCell ⟨g, 2, none⟩ (.int .u8 r2)).setCell ⟨g, 3, none⟩ (.int .u8 r3)).setCell ⟨g, 4, none⟩ (.int .u8 r4)).setCell ⟨g, 5, none⟩ (.int .u8 r5)).setCell ⟨g, 6, none⟩ (.int .u8 r6)).setCell ⟨g, 7, none⟩ (.int .u8 r7)) g .u8 t [r0, r1, r2, r3, r4, r5, r6, r7] :=
  (((((((h.set 0 r0).set 1 r1).set 2 r2).set 3 r3).set 4 r4).set 5 r5).set 6 r6).set 7 r7
theorem below_set8 {b : Nat} {w0 w : World} {g : Nat} (h : Below b w0 w) (hg : b ≤ g) (r0 r1 r2 r3 r4 r5 r6 r7 : Value) :
    Below b w0 ((((((((w.setCell ⟨g, 0, none⟩ r0).setCell ⟨g, 1, none⟩ r1).setCell ⟨g, 2, none⟩ r2).setCell ⟨g, 3, none⟩ r3).setCell ⟨g, 4, none⟩ r4).setCell ⟨g, 5, none⟩ r5).setCell ⟨g, 6, none⟩ r6).setCell ⟨g, 7, none⟩ r7) :=
  (((((((h.setCell (p := ⟨g, 0, none⟩) hg r0).setCell (p := ⟨g, 1, none⟩) hg r1).setCell (p := ⟨g, 2, none⟩) hg r2).setCell (p := ⟨g, 3, none⟩) hg r3).setCell (p := ⟨g, 4, none⟩) hg r4).setCell (p := ⟨g, 5, none⟩) hg r5).setCell (p := ⟨g, 6, none⟩) hg r6).setCell (p := ⟨g, 7, none⟩) hg r7
set_option maxHeartbeats 4000000 in
theorem impl_Des.calls8 (A0 : Option Addr) (c0 : Nat) (l0 : List Int) (A1 : Option Addr) (c1 : Nat) (l1 : List Int) (dec : Bool) (w : World) (hr0 : Kd.C (Kd.int .u8) w A0 l0.length l0) (hc0 : l0.length ≤ c0) (hr1 : Kd.C (Kd.int .u8) w A1 l1.length l1) (hc1 : l1.length ≤ c1)
    (h0 : l0.length = 8) (hb0 : Bytes l0) (h1 : l1.length = 8) (hb1 : Bytes l1) (ht : Tab w) :
    Calls Tryd.prog 15 #[.slice A0 l0.length c0, .slice A1 l1.length c1, .bool dec] w fun e w' => ∃ v0_ : Value, e = .returned (v0_) ∧ Kd.R (Kd.int .u8) 38 w' w.heap.size (fun _ => True) v0_ (desL l0 l1 dec) ∧ Below w.heap.size w w' := by
  obtain ⟨a0, a1, a2, a3, a4, a5, a6, a7, rfl⟩ := eight l0 h0
  obtain ⟨d0, d1, d2, d3, d4, d5, d6, d7, rfl⟩ := eight l1 h1
  have HT := Aside0.mk ht
  have KD := Aside0.mk (fun (w1 : World) (t1 : Tab w1) => impl_des.calls [a0, a1, a2, a3, a4, a5, a6, a7] [d0, d1, d2, d3, d4, d5, d6, d7] dec w1 h0 hb0 h1 hb1 t1)
  have HL : Aside0 ((desL [a0, a1, a2, a3, a4, a5, a6, a7] [d0, d1, d2, d3, d4, d5, d6, d7] dec).length = 8) := ⟨desL_length _ _ _ h1⟩
  obtain ⟨res, hres⟩ : ∃ r, r = desL [a0, a1, a2, a3, a4, a5, a6, a7] [d0, d1, d2, d3, d4, d5, d6, d7] dec := ⟨_, rfl⟩
  rw [← hres] at HL KD ⊢
  clear hres h0 hb0 h1 hb1 ht
  obtain ⟨r0, r1, r2, r3, r4, r5, r6, r7, rfl⟩ := eight res HL.out
  simp only [nums, List.map_cons, List.map_nil] at KD
  obtain ⟨ad0, rfl, x0, x1, x2, x3, x4, x5, x6, x7⟩ := cells8 hr0
  obtain ⟨ad1, rfl, y0, y1, y2, y3, y4, y5, y6, y7⟩ := cells8 hr1
  have nn0 := World.new_ne w ad0 x0
  have nn1 := World.new_ne w ad1 y0
  have HRC0 := Aside0.mk hr0
  have HRC1 := Aside0.mk hr1
  clear hr0 hr1
  simp only [List.length_cons, List.length_nil, Nat.zero_add, Nat.reduceAdd] at hc0 hc1 ⊢
  go_enter Tryd.func15, Tryd.ntmps15
  go_upto_region 3 with fail
  have hta := fun (A : Option Addr) (c : Nat) (w1 : World) => array_at (P := Tryd.prog) (t := 38) Tryd.underlying38 (Nat.le_refl 8) A c w1
  go_cut [7] from 17 (fun s7 wc => ∃ g : Nat, s7 = .pointer (some ⟨g, 0, none⟩) ∧ Aside0 (w.heap.size ≤ g ∧ Blk wc g .u8 38 [r0, r1, r2, r3, r4, r5, r6, r7]) ∧ Aside0 (Below w.heap.size w wc))
  case first =>
    go_region_held3 (fun w' => w'.cell? ad0 = some (.int .u8 a0) ∧ w'.cell? ⟨ad0.block, ad0.off + 1, none⟩ = some (.int .u8 a1) ∧ w'.cell? ⟨ad0.block, ad0.off + 2, none⟩ = some (.int .u8 a2) ∧ w'.cell? ⟨ad0.block, ad0.off + 3, none⟩ = some (.int .u8 a3) ∧ w'.cell? ⟨ad0.block, ad0.off + 4, none⟩ = some (.int .u8 a4) ∧ w'.cell? ⟨ad0.block, ad0.off + 5, none⟩ = some (.int .u8 a5) ∧ w'.cell? ⟨ad0.block, ad0.off + 6, none⟩ = some (.int .u8 a6) ∧ w'.cell? ⟨ad0.block, ad0.off + 7, none⟩ = some (.int .u8 a7) ∧ w'.cell? ad1 = some (.int .u8 d0) ∧ w'.cell? ⟨ad1.block, ad1.off + 1, none⟩ = some (.int .u8 d1) ∧ w'.cell? ⟨ad1.block, ad1.off + 2, none⟩ = some (.int .u8 d2) ∧ w'.cell? ⟨ad1.block, ad1.off + 3, none⟩ = some (.int .u8 d3) ∧ w'.cell? ⟨ad1.block, ad1.off + 4, none⟩ = some (.int .u8 d4) ∧ w'.cell? ⟨ad1.block, ad1.off + 5, none⟩ = some (.int .u8 d5) ∧ w'.cell? ⟨ad1.block, ad1.off + 6, none⟩ = some (.int .u8 d6) ∧ w'.cell? ⟨ad1.block, ad1.off + 7, none⟩ = some (.int .u8 d7))
      (go_keep)
      (first | (go_at_call 36; go_must (refine (KD.out _ ?tt).mono ?_; (case tt => exact HT.out.below (by repeat (first | exact Below.refl _ _ | apply below_drew1 | apply below_alloc))); rintro e w1 ⟨rfl, hb1⟩; (first | (have hz0 := blk8_new w (below_then (below_drew1 (Below.refl _ _)) (Nat.le_refl _) hb1); have hz := blk8 hz0; have HZ := Aside0.mk hz0; clear hz0; obtain ⟨⟨z0, z1, z2, z3, z4, z5, z6, z7⟩, f0, f1, f2, f3, f4, f5, f6, f7⟩ := hz; have HB1 := Aside0.mk (below_then (below_drew1 (below_alloc (Below.refl w.heap.size w) (.cells #[.int .u8 0, .int .u8 0, .int .u8 0, .int .u8 0, .int .u8 0, .int .u8 0, .int .u8 0, .int .u8 0] 38))) (by simp) hb1); clear hb1) | (have hz := blk8 (blk8_new w1 (Below.refl _ _)); obtain ⟨⟨z0, z1, z2, z3, z4, z5, z6, z7⟩, f0, f1, f2, f3, f4, f5, f6, f7⟩ := hz; have HB1 := Aside0.mk (below_then (below_drew1 (Below.refl w.heap.size w)) (Nat.le_refl _) hb1); clear hb1)); obtain ⟨_, e0', x0', x1', x2', x3', x4', x5', x6', x7'⟩ := cells8 (Kd.C_below HRC0.out HB1.out); cases e0'; obtain ⟨_, e1', y0', y1', y2', y3', y4', y5', y6', y7'⟩ := cells8 (Kd.C_below HRC1.out HB1.out); cases e1'; have nn0' := World.new_ne w1 ad0 x0'; have nn1' := World.new_ne w1 ad1 y0')))
    all_goals go_wp2
    all_goals go_meet
    all_goals (case rel =>
      refine ⟨_, rfl, ?_, ?_⟩
      · first | with_reducible exact ⟨⟨Nat.le_refl _, blk_set8 HZ.out _ _ _ _ _ _ _ _⟩⟩ | with_reducible exact ⟨⟨HB1.out.size, blk_of8 w1 _ _ _ _ _ _ _ _⟩⟩
      · first | with_reducible exact ⟨below_set8 HB1.out (Nat.le_refl _) _ _ _ _ _ _ _ _⟩ | with_reducible exact ⟨HB1.out.alloc HB1.out.size _⟩)
  case rest =>
    obtain ⟨g, rfl, H1, H2⟩ := hcut
    go_wp2
    go_ret
    exact ⟨_, rfl, H1.out.2.R H1.out.1 rfl (by omega), H2.out⟩

theorem empty_R (w : World) (o : Obj) (ho : o = .cells #[] 5) : Kd.R (Kd.int .u8) 5 (w.alloc o) w.heap.size (fun _ => True) (.slice (some ⟨w.heap.size, 0, none⟩) 0 0) [] := by
  subst ho
  have h0 : Blk (w.alloc (Obj.cells #[] 5)) w.heap.size .u8 5 [] := by
    have := Blk.new w .u8 5 []
    simpa [nums] using this
  exact h0.R (Nat.le_refl _) rfl (by omega)
set_option maxHeartbeats 1000000 in
theorem impl_Des.calls0 (A0 : Option Addr) (c0 : Nat) (n0 : Nat) (A1 : Option Addr) (c1 : Nat) (n1 : Nat) (dec : Bool) (w : World) (h : ¬ (n0 = 8 ∧ n1 = 8)) :
    Calls Tryd.prog 15 #[.slice A0 n0 c0, .slice A1 n1 c1, .bool dec] w fun e w' => ∃ v0_ : Value, e = .returned (v0_) ∧ Kd.R (Kd.int .u8) 5 w' w.heap.size (fun _ => True) v0_ [] ∧ Below w.heap.size w w' := by
  by_cases h0 : n0 = 8
  · have b0 : ((n0 : Int) != 8) = false := by rw [bne_eq_false_iff_eq]; omega
    have b1 : ((n1 : Int) != 8) = true := by rw [bne_iff_ne]; omega
    clear h
    go_enter Tryd.func15, Tryd.ntmps15
    go_wp2_with fail
    go_ret
    exact ⟨_, rfl, empty_R _ _ rfl, (Below.refl _ _).alloc (Nat.le_refl _) _⟩
  · have b0 : ((n0 : Int) != 8) = true := by rw [bne_iff_ne]; omega
    clear h
    go_enter Tryd.func15, Tryd.ntmps15
    go_wp2_with fail
    go_ret
    exact ⟨_, rfl, empty_R _ _ rfl, (Below.refl _ _).alloc (Nat.le_refl _) _⟩
end Go.Proofs.YtbjlpdfhjapbkaaDoor
