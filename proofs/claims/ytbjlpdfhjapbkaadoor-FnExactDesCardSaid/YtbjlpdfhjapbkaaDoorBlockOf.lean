/- Contract of impl.blockOf: the bytes of a number's 64 bits. Condition: the number is that of 64 bits. -/
import Derived.Test.YtbjlpdfhjapbkaaDoorNumber
import Derived.Test.YtbjlpdfhjapbkaaDoorDesD
namespace Go.Proofs.YtbjlpdfhjapbkaaDoor
open Go.RowKit Go.Proofs.YtbjlpdfhjapbkaaDoorW.PrintWords Go.Proofs.YtbjlpdfhjapbkaaDoorW.PrintLast Go.Proofs.YtbjlpdfhjapbkaaDoorW.PrintMore Go.Proofs.YtbjlpdfhjapbkaaDoor.D
set_option linter.unusedVariables false

def outTo (bs : List Int) (i : Nat) : List Int := unbits (bs.take (8 * i)) ++ List.replicate (8 - i) 0
theorem outTo_length (bs : List Int) (i : Nat) (h : bs.length = 64) (hi : i ≤ 8) : (outTo bs i).length = 8 := by
  rw [outTo, List.length_append, unbits_length i _ (by rw [List.length_take]; omega), List.length_replicate]
  omega
theorem outTo_step (bs : List Int) (i : Nat) (h : bs.length = 64) (hb : Bits bs) (hi : i < 8) : (outTo bs i).set i (num bs / 2 ^ (56 - 8 * i) % 256) = outTo bs (i + 1) := by
  have hl : (unbits (bs.take (8 * i))).length = i := unbits_length i _ (by rw [List.length_take]; omega)
  have h1 : bs.take (8 * (i + 1)) = bs.take (8 * i) ++ (bs.drop (8 * i)).take 8 := by
    rw [show 8 * (i + 1) = 8 * i + 8 by omega, List.take_add]
  have e : num bs / 2 ^ (56 - 8 * i) % 256 = num ((bs.drop (8 * i)).take 8) := by
    have hd := num_div bs hb (8 * i + 8) (by omega)
    rw [h, show 64 - (8 * i + 8) = 56 - 8 * i by omega] at hd
    have hm := num_mod (bs.take (8 * i + 8)) (hb.take _) (8 * i) (by rw [List.length_take]; omega)
    rw [List.length_take, show min (8 * i + 8) bs.length - 8 * i = 8 by omega] at hm
    rw [hd, show (256 : Int) = 2 ^ 8 from rfl, hm]
    congr 1
    rw [List.drop_take]
    congr 1
    omega
  rw [e]
  unfold outTo
  rw [h1, B.unbits_append i _ _ (by rw [List.length_take]; omega), show 8 - i = (8 - (i + 1)) + 1 by omega, List.replicate_succ]
  obtain ⟨x0, x1, x2, x3, x4, x5, x6, x7, t, ht⟩ := list8 (l := bs.drop (8 * i)) (by rw [List.length_drop]; omega)
  rw [ht]
  have hset : ∀ (pre : List Int) (v : Int) (rest : List Int), pre.length = i → (pre ++ 0 :: rest).set i v = pre ++ v :: rest := by
    intro pre v rest hp
    subst hp
    simp
  rw [hset _ _ _ hl, List.append_assoc]
  rfl

set_option maxHeartbeats 1000000 in
theorem impl_blockOf.calls (bs : List Int) (w : World) (h64 : bs.length = 64) (hb : Bits bs) :
    Calls Tryd.prog 59 #[.int .u64 (num bs)] w fun e w' => e = .returned (.agg (nums .u8 (unbits bs)).toArray) ∧ Below w.heap.size w w' := by
  have H8 := Aside0.mk h64
  have HB := Aside0.mk hb
  clear h64 hb
  go_enter Tryd.func59, Tryd.ntmps59
  go_wp2_with fail
  go_loopw [6] (fun i wr => ∃ k : Nat, k ≤ 8 ∧ i = .int .i64 k ∧ Aside0 (Blk wr (w.heap.size + 1) .u8 38 (outTo bs k)) ∧ Aside0 (Blk wr w.heap.size .u8 38 (List.replicate 8 0)) ∧ Aside0 (Below w.heap.size w wr))
    (fun i _ => 8 - (intOf i).toNat)
  case atStart => exact ⟨0, by omega, rfl, ⟨by have h_ := blk_new (w.alloc (.cells (nums .u8 (List.replicate 8 0)).toArray 38)) (.cells (nums .u8 (List.replicate 8 0)).toArray 38); simpa [nums, Blk, outTo, unbits, List.replicate] using h_⟩, ⟨by have h_ := blk_alloc (blk_new w (.cells (nums .u8 (List.replicate 8 0)).toArray 38)) (.cells (nums .u8 (List.replicate 8 0)).toArray 38); simpa [nums, Blk, List.replicate] using h_⟩, ⟨((Below.refl _ _).alloc (Nat.le_refl _) _).alloc (by simp) _⟩⟩
  case round =>
    obtain ⟨k, hk, rfl, HO, HZ, HW⟩ := hrel
    by_cases hlt : k < 8
    · have hc := HO.out.cell k (by rw [outTo_length bs k H8.out hk]; exact hlt)
      have hf := HO.out.free k
      have HS := Aside0.mk (outTo_step bs k H8.out HB.out hlt)
      have hset := Aside0.mk (HO.out.set k (num bs / 2 ^ (56 - 8 * k) % 256))
      have hz := Aside0.mk (HZ.out.far (p := ⟨w.heap.size + 1, k, none⟩) (by simp) (.int .u8 (num bs / 2 ^ (56 - 8 * k) % 256)))
      have hw := Aside0.mk (HW.out.setCell (p := ⟨w.heap.size + 1, k, none⟩) (by simp) (.int .u8 (num bs / 2 ^ (56 - 8 * k) % 256)))
      have hnb := num_bound bs HB.out
      rw [H8.out] at hnb
      obtain ⟨v, hv⟩ : ∃ v, v = num bs := ⟨_, rfl⟩
      rw [← hv] at HS hset hz hw hnb ⊢
      clear hv
      obtain ⟨hn0, hn1⟩ := hnb
      have e8 : (56 - 8 * (k : Int)).toNat = 56 - 8 * k := by omega
      go_wp2
      go_roundw
      case rel =>
        refine ⟨k + 1, by omega, by go_num, ?_, ?_, ?_⟩
        · rw [← HS.out]
          first | exact hset | (simp only [e8] at *; exact hset) | trace_state
        · first | exact hz | trace_state
        · first | exact hw | trace_state
      case measure => simp [intOf]; omega
    · obtain rfl : k = 8 := by omega
      have ho8 : outTo bs 8 = unbits bs := by
        unfold outTo
        rw [List.take_of_length_le (by rw [H8.out]; exact Nat.le_refl _)]
        simp
      have hl8 := unbits_length 8 bs (by rw [H8.out])
      rw [ho8] at HO
      clear ho8
      have HL := Aside0.mk hl8
      clear hl8
      go_wp2_with (first | (with_reducible refine wpList_load_blk rfl 38 (.tmp 3) rfl (w.heap.size + 1) rfl Tryd.underlying38 info8 HO.out HL.out ?_) | (with_reducible refine wpList_store_blk rfl 38 (.tmp 2) (.tmp 18) rfl w.heap.size rfl info8 rfl HZ.out (by simp) HL.out ?_))
      refine bodyPost_ret (results_blk rfl _ _ w.heap.size Tryd.underlying38 info8 rfl (HZ.out.setRow _) HL.out) rfl ⟨rfl, below_setRow HW.out (Nat.le_refl _) _⟩
end Go.Proofs.YtbjlpdfhjapbkaaDoor
