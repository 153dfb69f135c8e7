/- Contract of impl.xor8: blocks of 8 bytes XORed one after the other. Condition: the slice's cells are blocks of 8 bytes at the head of a block. -/
import Derived.Test.YtiejallnkgllnaaPin
import Derived.Test.YtiejallnkgllnaaXorL
import Derived.Deep.MidRow
namespace Go.Proofs.Ytiejallnkgllnaa
open Go.RowKit Go.Proofs.YtiejallnkgllnaaW.PrintWords Go.Proofs.YtiejallnkgllnaaW.PrintLast Go.Proofs.YtiejallnkgllnaaW.PrintMore Go.Proofs.Ytiejallnkgllnaa.D
open Go.Proofs.Ytiejallnkgllnaa.B (xorL xorL_length)
set_option linter.unusedVariables false

def foldX (L : Nat → List Int) : Nat → List Int
  | 0 => List.replicate 8 0
  | k + 1 => xorL (foldX L k) (L k)
theorem foldX_length (L : Nat → List Int) (h : ∀ k, (L k).length = 8) (k : Nat) : (foldX L k).length = 8 := by
  induction k with
  | zero => rfl
  | succ k ih => rw [foldX, xorL_length _ _ (by rw [ih, h]; exact Nat.le_refl _), ih]
def xorTo (a b : List Int) (i : Nat) : List Int := xorL (a.take i) (b.take i) ++ a.drop i
theorem xorTo_length (a b : List Int) (i : Nat) (ha : a.length = 8) (hb : b.length = 8) (hi : i ≤ 8) : (xorTo a b i).length = 8 := by
  simp [xorTo, xorL, ha, hb]; omega
theorem xorTo_zero (a b : List Int) : xorTo a b 0 = a := by simp [xorTo, xorL]
theorem xorTo_all (a b : List Int) (ha : a.length = 8) (hb : b.length = 8) : xorTo a b 8 = xorL a b := by
  unfold xorTo
  rw [List.take_of_length_le (by omega), List.take_of_length_le (by omega), List.drop_of_length_le (by omega), List.append_nil]
theorem xorTo_nth (a b : List Int) (i : Nat) (ha : a.length = 8) (hb : b.length = 8) (hi : i < 8) : nth (xorTo a b i) i = nth a i := by
  have h : (xorL (a.take i) (b.take i)).length = i := by rw [xorL_length _ _ (by simp; omega)]; simp; omega
  rw [nth_at _ _ (by rw [xorTo_length a b i ha hb (by omega)]; exact hi), nth_at _ _ (by omega)]
  unfold xorTo
  rw [List.getElem_append_right (by omega), List.getElem_drop]
  congr 1
  omega
theorem xorTo_step (a b : List Int) (i : Nat) (ha : a.length = 8) (hb : b.length = 8) (hi : i < 8) : (xorTo a b i).set i (Go.bits .xor .u8 (nth a i) (nth b i)) = xorTo a b (i + 1) := by
  have h : (xorL (a.take i) (b.take i)).length = i := by rw [xorL_length _ _ (by simp; omega)]; simp; omega
  have e : xorL (a.take (i + 1)) (b.take (i + 1)) = xorL (a.take i) (b.take i) ++ [Go.bits .xor .u8 (nth a i) (nth b i)] := by
    rw [List.take_succ_eq_append_getElem (by omega), List.take_succ_eq_append_getElem (by omega), nth_at a i (by omega), nth_at b i (by omega)]
    unfold xorL
    rw [List.zipWith_append (by simp; omega)]
    rfl
  unfold xorTo
  rw [e, ← List.getElem_cons_drop (show i < a.length by omega), List.set_append_right _ _ (by omega), h, Nat.sub_self, List.set_cons_zero, List.append_assoc]
  rfl

set_option maxHeartbeats 4000000 in
theorem impl_xor8.calls (L : Nat → List Int) (n c g : Nat) (w : World) (hn : n ≤ 4) (hL : ∀ k, (L k).length = 8) (hel : ∀ k, k < n → w.rangeAt g (8 * k) (nums .u8 (L k))) :
    Calls Try.prog 51 #[.slice (some ⟨g, 0, none⟩) n c] w fun e w' => e = .returned (.agg (nums .u8 (foldX L n)).toArray) ∧ Below w.heap.size w w' := by
  have HL := Aside0.mk hL
  have HE := Aside0.mk hel
  clear hL hel
  go_enter Try.func51, Try.ntmps51
  go_wp2_with fail
  go_loopw [5, 6, 10] (fun v5 v6 v10 wr => ∃ k : Nat, k ≤ n ∧ v10 = .int .i64 k ∧ Aside0 (Blk wr (w.heap.size + 1) .u8 84 (foldX L k)) ∧ Aside0 (Blk wr w.heap.size .u8 84 (List.replicate 8 0)) ∧ Aside0 (Below w.heap.size w wr))
    (fun _ _ v10 _ => n - (intOf v10).toNat)
  case atStart => exact ⟨0, by omega, rfl, ⟨by have h_ := blk_new (w.alloc (.cells (nums .u8 (List.replicate 8 0)).toArray 84)) (.cells (nums .u8 (List.replicate 8 0)).toArray 84); simpa [nums, Blk, foldX, List.replicate] using h_⟩, ⟨by have h_ := blk_alloc (blk_new w (.cells (nums .u8 (List.replicate 8 0)).toArray 84)) (.cells (nums .u8 (List.replicate 8 0)).toArray 84); simpa [nums, Blk, List.replicate] using h_⟩, ⟨((Below.refl _ _).alloc (Nat.le_refl _) _).alloc (by simp) _⟩⟩
  case round =>
    obtain ⟨k, hk, rfl, HO, HZ, HW⟩ := hrel
    by_cases hlt : k < n
    · have hr := HE.out k hlt
      have HR : Aside0 (wr.rangeAt g (k * 8) (nums .u8 (L k))) := ⟨by rw [Nat.mul_comm k 8]; exact fun j v hv => (HW.out.cell (World.block_lt_of_cell? w _ (hr j v hv))).trans (hr j v hv)⟩
      clear hr
      have hl8 : Aside0 ((nums .u8 (L k)).length = 8) := ⟨by rw [nums_length]; exact HL.out k⟩
      have hc0 : ⟨g, 8 * k, none⟩ = (⟨g, 0, none⟩ : Addr).add (k * 8) := by rw [Addr.add_mid]; congr 1; omega
      have hnew : Blk (wr.alloc (.cells #[.int .u8 0, .int .u8 0, .int .u8 0, .int .u8 0, .int .u8 0, .int .u8 0, .int .u8 0, .int .u8 0] 84)) wr.heap.size .u8 84 (List.replicate 8 0) := by
        have h_ := blk_new wr (.cells (nums .u8 (List.replicate 8 0)).toArray 84)
        simpa [nums, Blk, List.replicate] using h_
      have HN := Aside0.mk hnew
      have hs1 := HO.out.lt
      have F1 := Aside0.mk (hnew.setRow (L k))
      have F2 := Aside0.mk ((HO.out.alloc (.cells #[.int .u8 0, .int .u8 0, .int .u8 0, .int .u8 0, .int .u8 0, .int .u8 0, .int .u8 0, .int .u8 0] 84)).setRow_far (g' := wr.heap.size) (by omega) (nums .u8 (L k)).toArray)
      have F3 := Aside0.mk ((HZ.out.alloc (.cells #[.int .u8 0, .int .u8 0, .int .u8 0, .int .u8 0, .int .u8 0, .int .u8 0, .int .u8 0, .int .u8 0] 84)).setRow_far (g' := wr.heap.size) (by omega) (nums .u8 (L k)).toArray)
      have F4 := Aside0.mk (below_setRow (g := wr.heap.size) (HW.out.alloc HW.out.size (.cells #[.int .u8 0, .int .u8 0, .int .u8 0, .int .u8 0, .int .u8 0, .int .u8 0, .int .u8 0, .int .u8 0] 84)) HW.out.size (nums .u8 (L k)).toArray)
      clear hnew HO HZ HW
      have hgS : wr.heap.size ≠ w.heap.size + 1 := by omega
      go_wp2_with (first | (with_reducible refine wpList_load_mid rfl 84 (.tmp 12) rfl g (k * 8) rfl (nums .u8 (L k)) _ HR.out Try.underlying84 rfl (by rw [info8, hl8.out]) ?_) | (with_reducible refine wpList_store_blk rfl 84 (.tmp 5) (.tmp 13) rfl wr.heap.size rfl info8 rfl HN.out (by simp) (HL.out k) ?_))
      have hl1 : Aside0 ((foldX L k).length = 8) := ⟨foldX_length L HL.out k⟩
      have hl2 := Aside0.mk (HL.out k)
      have hnx : Aside0 (xorL (foldX L k) (L k) = foldX L (k + 1)) := ⟨rfl⟩
      obtain ⟨W, hW⟩ : ∃ W, W = (wr.alloc (.cells #[.int .u8 0, .int .u8 0, .int .u8 0, .int .u8 0, .int .u8 0, .int .u8 0, .int .u8 0, .int .u8 0] 84)).setRow wr.heap.size (nums .u8 (L k)).toArray := ⟨_, rfl⟩
      rw [← hW] at F1 F2 F3 F4 ⊢
      clear hW HN HR
      obtain ⟨gb, hgb⟩ : ∃ gb, gb = wr.heap.size := ⟨_, rfl⟩
      rw [← hgb] at F1 hs1 hgS ⊢
      clear hgb
      obtain ⟨cur, hcur⟩ : ∃ cur, cur = foldX L k := ⟨_, rfl⟩
      rw [← hcur] at F2 hl1 hnx
      clear hcur
      obtain ⟨bl, hbl⟩ : ∃ bl, bl = L k := ⟨_, rfl⟩
      rw [← hbl] at F1 hl2 hnx ⊢
      clear hbl
      go_loopw [6, 14] (fun v6 v14 wi => ∃ i : Nat, i ≤ 8 ∧ v14 = .int .i64 i ∧ Aside0 (Blk wi (w.heap.size + 1) .u8 84 (xorTo cur bl i)) ∧ Aside0 (Blk wi w.heap.size .u8 84 (List.replicate 8 0)) ∧ Aside0 (Blk wi gb .u8 84 bl) ∧ Aside0 (Below w.heap.size w wi))
        (fun _ v14 _ => 8 - (intOf v14).toNat)
      case atStart => exact ⟨0, by omega, rfl, ⟨by rw [xorTo_zero]; exact F2.out⟩, F3, F1, F4⟩
      case round =>
        obtain ⟨i, hi, rfl, HO, HZ, HB, HW⟩ := hrel
        by_cases hli : i < 8
        · have c1 := HO.out.cell i (by rw [xorTo_length cur bl i hl1.out hl2.out hi]; exact hli)
          have c2 := HB.out.cell i (by rw [hl2.out]; exact hli)
          have c3 := HO.out.free i
          have hx := Aside0.mk (xorTo_step cur bl i hl1.out hl2.out hli)
          rw [xorTo_nth cur bl i hl1.out hl2.out hli] at c1
          go_wp2
          go_region
          go_wp2
          go_roundw
          case rel =>
            exact ⟨i + 1, by omega, by go_num, ⟨by rw [← hx.out]; exact HO.out.set i _⟩, ⟨HZ.out.far (p := ⟨w.heap.size + 1, i, none⟩) (by simp) _⟩, ⟨HB.out.far (p := ⟨w.heap.size + 1, i, none⟩) hgS _⟩, ⟨below_drew1 (HW.out.setCell (p := ⟨w.heap.size + 1, i, none⟩) (by simp) _)⟩⟩
          case measure => simp [intOf]; omega
        · obtain rfl : i = 8 := by omega
          go_wp2
          go_roundw
          case rel =>
            rw [xorTo_all cur bl hl1.out hl2.out, hnx.out] at HO
            exact ⟨k + 1, by omega, by go_num, HO, HZ, HW⟩
          case measure => simp [intOf]; omega
    · obtain rfl : k = n := by omega
      have HL8 := Aside0.mk (foldX_length L HL.out k)
      go_wp2_with (first | (with_reducible refine wpList_load_blk rfl 84 (.tmp 3) rfl (w.heap.size + 1) rfl Try.underlying84 info8 HO.out HL8.out ?_) | (with_reducible refine wpList_store_blk rfl 84 (.tmp 2) (.tmp 27) rfl w.heap.size rfl info8 rfl HZ.out (by simp) HL8.out ?_))
      refine bodyPost_ret (results_blk rfl _ _ w.heap.size Try.underlying84 info8 rfl (HZ.out.setRow _) HL8.out) rfl ⟨rfl, below_setRow HW.out (Nat.le_refl _) _⟩
end Go.Proofs.Ytiejallnkgllnaa
