/- Contracts of spec.l1Bytes (a copy) over the loaded program. Condition: the argument reads as a list of bytes. -/
import Derived.Test.YtbjlpdfhjapbkaaDoorHW
namespace Go.Proofs.YtbjlpdfhjapbkaaDoor
open Go.RowKit Go.Proofs.YtbjlpdfhjapbkaaDoorW.PrintWords Go.Proofs.YtbjlpdfhjapbkaaDoorW.PrintLast Go.Proofs.YtbjlpdfhjapbkaaDoorW.PrintMore

set_option linter.unusedVariables false

def spec_l1Bytes.f (l0 : List Int) : Option (List Int) := if l0.length ≤ 140737488355328 then some l0 else none

set_option maxHeartbeats 1000000 in
theorem spec_l1Bytes.calls (A0 : Option Addr) (c0 : Nat) (l0 : List Int) (r : List Int) (w : World) (hr0 : Kd.C (Kd.int .u8) w A0 l0.length l0) (hc0 : l0.length ≤ c0) (h : spec_l1Bytes.f l0 = some r) :
    Calls Tryd.prog 47 #[.slice A0 l0.length c0] w fun e w' => ∃ v0_ : Value, e = .returned (v0_) ∧ Kd.R (Kd.int .u8) 5 w' w.heap.size (fun _ => True) v0_ r ∧ Below w.heap.size w w' := by
  unfold spec_l1Bytes.f at h
  have hlen : l0.length ≤ 140737488355328 := by
    by_cases hl : l0.length ≤ 140737488355328
    · exact hl
    · rw [if_neg hl] at h; cases h
  rw [if_pos hlen] at h
  obtain rfl := Option.some.inj h
  clear h
  have HR0 := Aside0.mk hr0
  clear hr0
  obtain ⟨n, hn⟩ : ∃ n, n = l0.length := ⟨_, rfl⟩
  rw [← hn] at hc0 hlen ⊢
  have Hn := Aside0.mk hn
  clear hn
  have hmk := print_make (P := Tryd.prog) 22 5 .u8 1 Tryd.underlying22 info5 (by decide) n (by omega)
  go_enter Tryd.func47, Tryd.ntmps47
  go_wp2_with (with_reducible refine wpList_copy_splice rfl (.tmp 7) (.tmp 8) 22 22 rfl 5 Tryd.underlying22 size5 (some ⟨w.heap.size, 0, none⟩) A0 n n n c0 rfl rfl w.heap.size 0 (nums .u8 (List.replicate n 0)) 5 ?c1 (nums .u8 l0) ?c2 ?c3 ?c4 (nums_one _ _) w.heap.size w ((Below.refl _ _).alloc (Nat.le_refl _) _) (Nat.le_refl _) ?_)
  case c1 => rw [← made_nums]; exact blk_new w _
  case c2 => rw [nums_length, ← Hn.out]; simp
  case c3 =>
    intro hp
    rw [nums_length] at hp
    obtain ⟨ad, he, hc⟩ := C_cells HR0.out hp
    have hc' : ∀ j v, (nums .u8 l0)[j]? = some v → (w.alloc (.cells (madeCells #[Value.int .u8 0] n) 5)).cell? (ad.add j) = some v := fun j v hv =>
      (World.cell?_alloc_lt _ _ _ (World.block_lt_of_cell? w _ (hc j v hv))).trans (hc j v hv)
    first | exact ⟨rfl, ad, he, hc'⟩ | exact ⟨ad, he, hc'⟩
  case c4 => rw [nums_length, nums_length, ← Hn.out]; simp
  intro w2 HG hB
  clear hmk
  go_wp2
  go_ret
  have hs : splice (nums .u8 (List.replicate n 0)) 0 (nums .u8 l0) = nums .u8 l0 := by
    unfold splice
    rw [List.drop_of_length_le (by simp [nums, ← Hn.out])]
    simp
  have hb : Blk w2 w.heap.size .u8 5 l0 := by
    have := HG.out
    rw [hs] at this
    exact this
  exact ⟨_, rfl, hb.R (Nat.le_refl _) Hn.out.symm (by omega), hB⟩
end Go.Proofs.YtbjlpdfhjapbkaaDoor
