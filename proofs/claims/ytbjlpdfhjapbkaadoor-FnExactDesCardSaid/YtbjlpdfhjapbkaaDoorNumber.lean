/- Contract of impl's block8.number: the number that the block's 64 bits make. Condition: a block of 8 bytes. -/
import Derived.Test.YtbjlpdfhjapbkaaDoorArr
import Derived.Test.YtbjlpdfhjapbkaaDoorDesB
namespace Go.Proofs.YtbjlpdfhjapbkaaDoor
open Go.RowKit Go.Proofs.YtbjlpdfhjapbkaaDoorW.PrintWords Go.Proofs.YtbjlpdfhjapbkaaDoorW.PrintLast Go.Proofs.YtbjlpdfhjapbkaaDoorW.PrintMore Go.Proofs.YtbjlpdfhjapbkaaDoor.D
set_option linter.unusedVariables false

theorem info8 : (Tryd.prog.info? 38).map (·.size) = some 8 := by kernel_rfl
theorem number_step (b : List Int) (i : Nat) (hi : i < b.length) (h8 : b.length = 8) (hb : Bytes b) : Go.bits .or .u64 (num (bitsOf (b.take i)) * 256) (nth b i) = num (bitsOf (b.take (i + 1))) := by
  have h1 := num_bound (bitsOf (b.take i)) (bitsOf_bits _)
  have hl : (bitsOf (b.take i)).length ≤ 56 := by rw [bitsOf_length, List.length_take]; omega
  have hp : (2 : Int) ^ (bitsOf (b.take i)).length ≤ 2 ^ 56 := by exact_mod_cast Nat.pow_le_pow_right (by decide) hl
  have hx := hb.nth i
  rw [List.take_succ_eq_append_getElem hi, num_bitsOf_snoc _ _ (hb _ (List.getElem_mem hi)), ← nth_at b i hi]
  have := or_join (num (bitsOf (b.take i))) (nth b i) 8 (by decide) h1.1 hx.1 (by omega) (by omega)
  simpa using this
theorem number_small (b : List Int) (i : Nat) (hi : i < b.length) (h8 : b.length = 8) : 0 ≤ num (bitsOf (b.take i)) ∧ num (bitsOf (b.take i)) < 72057594037927936 := by
  have h1 := num_bound (bitsOf (b.take i)) (bitsOf_bits _)
  have hl : (bitsOf (b.take i)).length ≤ 56 := by rw [bitsOf_length, List.length_take]; omega
  have hp : (2 : Int) ^ (bitsOf (b.take i)).length ≤ 2 ^ 56 := by exact_mod_cast Nat.pow_le_pow_right (by decide) hl
  omega

set_option maxHeartbeats 1000000 in
theorem impl_number.calls (b : List Int) (w : World) (h8 : b.length = 8) (hb : Bytes b) :
    Calls Tryd.prog 57 #[.agg (nums .u8 b).toArray] w fun e w' => e = .returned (.int .u64 (num (bitsOf b))) ∧ Below w.heap.size w w' := by
  have H8 := Aside0.mk h8
  have HB := Aside0.mk hb
  clear h8 hb
  go_enter Tryd.func57, Tryd.ntmps57
  go_wp2_with (with_reducible refine wpList_load_row rfl 38 _ rfl w.heap.size rfl 38 (nums .u8 b).toArray (0, 0) _ (blk_new w _) Tryd.underlying38 rfl ?c1 ?_)
  case c1 => rw [info8]; simp [nums, H8.out]
  go_loop [3, 7] (fun n i => ∃ k : Nat, k ≤ 8 ∧ i = .int .i64 k ∧ n = .int .u64 (num (bitsOf (b.take k)))) (fun _ i => 8 - (intOf i).toNat)
  case atStart => exact ⟨0, by omega, rfl, rfl⟩
  case round =>
    obtain ⟨k, hk, rfl, rfl⟩ := hrel
    by_cases hlt : k < 8
    · have hidx := run_index_nums (P := Tryd.prog) Tryd.underlying38 Tryd.underlying5 size5 b k H8.out hlt
      have hst := number_step b k (by rw [H8.out]; exact hlt) H8.out HB.out
      have hsm := number_small b k (by rw [H8.out]; exact hlt) H8.out
      have hbyte := HB.out.nth k
      obtain ⟨v, hv⟩ : ∃ v, v = num (bitsOf (b.take k)) := ⟨_, rfl⟩
      rw [← hv] at hst hsm ⊢
      obtain ⟨y, hy⟩ : ∃ y, y = nth b k := ⟨_, rfl⟩
      rw [← hy] at hst hbyte hidx
      clear hv hy
      have HS := Aside0.mk hst
      clear hst
      obtain ⟨hs0, hs1⟩ := hsm
      obtain ⟨hy0, hy1⟩ := hbyte
      go_wp2
      go_round
      case rel => exact ⟨k + 1, by omega, by go_num, by rw [← HS.out]⟩
      case measure => simp [intOf]; omega
    · obtain rfl : k = 8 := by omega
      go_wp2
      go_ret
      rw [List.take_of_length_le (by rw [H8.out]; exact Nat.le_refl _)]
      exact ⟨rfl, (Below.refl _ _).alloc (Nat.le_refl _) _⟩
end Go.Proofs.YtbjlpdfhjapbkaaDoor
