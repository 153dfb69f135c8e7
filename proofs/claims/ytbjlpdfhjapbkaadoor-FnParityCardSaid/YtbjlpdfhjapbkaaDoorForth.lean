/- Contracts of the two methods 'forth' and of impl.chain with either. Conditions: keys and blocks of bytes; whole blocks; the tables lie there. -/
import Derived.Test.YtbjlpdfhjapbkaaDoorPTW
import Derived.Test.YtbjlpdfhjapbkaaDoorTdW
import Derived.Test.YtbjlpdfhjapbkaaDoorXor8
import Derived.Deep.RegionWith
import Derived.Deep.CutRange
namespace Go.Proofs.YtbjlpdfhjapbkaaDoor
open Go.RowKit Go.Proofs.YtbjlpdfhjapbkaaDoorW.PrintWords Go.Proofs.YtbjlpdfhjapbkaaDoorW.PrintLast Go.Proofs.YtbjlpdfhjapbkaaDoorW.PrintMore Go.Proofs.YtbjlpdfhjapbkaaDoor.D
open Go.Proofs.YtbjlpdfhjapbkaaDoor.B (xorL xorL_length)
set_option linter.unusedVariables false

section
variable {P : Program} {ops : Array Oper} {rest : List Oper} {o : Oper} {a : Act} {w : World} {Q : Exit → Act → World → Prop}
/-- A whole struct of numbers read out of its block. -/
theorem wpList_load_blkS (hgd : o.guard = none) (ty : TypeId) (x : Operand) (ho : o.op = .load ty x) (g : Nat) (hx : a.eval x = .pointer (some ⟨g, 0, none⟩)) {n : Nat} {d : TypeDesc} (hu : P.underlying ty = some d) (hd : (match d with | .struct _ | .array _ _ => true | _ => false) = true) (hi : (P.info? ty).map (·.size) = some n)
    {k : IntKind} {t : TypeId} {xs : List Int} (hb : Blk w g k t xs) (hl : xs.length = n) (h : wpList P ops Q rest (a.put o.dst (.agg (nums k xs).toArray)) w) : wpList P ops Q (o :: rest) a w :=
  wpList_load_row hgd ty x ho g hx t (nums k xs).toArray (0, 0) _ hb hu hd (by rw [hi]; simp [nums, hl]) h
end
theorem info46 : (Tryd.prog.info? 46).map (·.size) = some 8 := by kernel_rfl
theorem type46 : Tryd.prog.underlying 46 = some (.array 8 5) := by kernel_rfl
set_option maxHeartbeats 4000000 in
theorem impl_single_forth.calls (key b : List Int) (w : World) (hk : key.length = 8) (hkb : Bytes key) (h8 : b.length = 8) (hb : Bytes b) (ht : Tab w) :
    Calls Tryd.prog 40 #[.agg (nums .u8 key).toArray, .agg (nums .u8 b).toArray] w fun e w' => e = .returned (.agg (nums .u8 (desL key b false)).toArray) ∧ Below w.heap.size w w' := by
  have HT := Aside0.mk ht
  have KD := Aside0.mk (fun (w1 : World) (t1 : Tab w1) => impl_des.calls key b false w1 hk hkb h8 hb t1)
  skip
  obtain ⟨res, hres⟩ : ∃ r, r = desL key b false := ⟨_, rfl⟩
  have HL : Aside0 (res.length = 8) := ⟨by rw [hres]; exact desL_length _ _ _ h8⟩
  rw [← hres] at KD ⊢
  have HK := Aside0.mk hk
  have HB8 := Aside0.mk h8
  clear hres hk hkb h8 hb ht
  go_enter Tryd.func40, Tryd.ntmps40
  have B0 : Blk (w.alloc (.cells (nums .u8 key).toArray 46)) w.heap.size .u8 46 key := blk_new w _
  have B1 : Blk ((w.alloc (.cells (nums .u8 key).toArray 46)).alloc (.cells (nums .u8 b).toArray 38)) (w.heap.size + 1) .u8 38 b := by
    have h_ := blk_new (w.alloc (.cells (nums .u8 key).toArray 46)) (.cells (nums .u8 b).toArray 38)
    simpa [Blk] using h_
  have B2 : Blk (((w.alloc (.cells (nums .u8 key).toArray 46)).alloc (.cells (nums .u8 b).toArray 38)).alloc (.cells #[.int .u8 0, .int .u8 0, .int .u8 0, .int .u8 0, .int .u8 0, .int .u8 0, .int .u8 0, .int .u8 0] 38)) (w.heap.size + 1 + 1) .u8 38 [0, 0, 0, 0, 0, 0, 0, 0] := by
    have h_ := blk_new ((w.alloc (.cells (nums .u8 key).toArray 46)).alloc (.cells (nums .u8 b).toArray 38)) (.cells (nums .u8 [0, 0, 0, 0, 0, 0, 0, 0]).toArray 38)
    simpa [Blk, nums] using h_
  have BW : Below w.heap.size w (((w.alloc (.cells (nums .u8 key).toArray 46)).alloc (.cells (nums .u8 b).toArray 38)).alloc (.cells #[.int .u8 0, .int .u8 0, .int .u8 0, .int .u8 0, .int .u8 0, .int .u8 0, .int .u8 0, .int .u8 0] 38)) := (((Below.refl _ _).alloc (Nat.le_refl _) _).alloc (by simp) _).alloc (by simp; omega) _
  replace B0 := Aside0.mk ((B0.alloc (.cells (nums .u8 b).toArray 38)).alloc (.cells #[.int .u8 0, .int .u8 0, .int .u8 0, .int .u8 0, .int .u8 0, .int .u8 0, .int .u8 0, .int .u8 0] 38))
  replace B1 := Aside0.mk (B1.alloc (.cells #[.int .u8 0, .int .u8 0, .int .u8 0, .int .u8 0, .int .u8 0, .int .u8 0, .int .u8 0, .int .u8 0] 38))
  replace B2 := Aside0.mk B2
  replace BW := Aside0.mk BW
  go_wp2_with (first | (with_reducible refine wpList_load_blk rfl 46 (.tmp 2) rfl w.heap.size rfl type46 info46 B0.out HK.out ?_) | (with_reducible refine wpList_load_blk rfl 38 (.tmp 3) rfl (w.heap.size + 1) rfl Tryd.underlying38 info8 B1.out HB8.out ?_) | (go_at_call 36; go_must (refine (KD.out _ ?tt).mono ?_; (case tt => exact HT.out.below BW.out); rintro e w1 ⟨rfl, hb1⟩; have HZ := Aside0.mk (B2.out.below hb1); have HW := Aside0.mk (below_step BW.out hb1); clear hb1)) | (with_reducible refine wpList_store_blk rfl 38 (.tmp 4) (.tmp 7) rfl (w.heap.size + 1 + 1) rfl info8 rfl HZ.out rfl HL.out ?_))
  refine bodyPost_ret (results_blk rfl _ _ (w.heap.size + 1 + 1) Tryd.underlying38 info8 rfl (HZ.out.setRow _) HL.out) rfl ⟨rfl, below_setRow HW.out (by omega) _⟩

set_option maxHeartbeats 4000000 in
theorem impl_pair_forth.calls (key b : List Int) (w : World) (hk : key.length = 16) (hkb : Bytes key) (h8 : b.length = 8) (hb : Bytes b) (ht : Tab w) :
    Calls Tryd.prog 54 #[.agg (nums .u8 key).toArray, .agg (nums .u8 b).toArray] w fun e w' => e = .returned (.agg (nums .u8 (tdeaL (key.take 8) (key.drop 8) b false)).toArray) ∧ Below w.heap.size w w' := by
  have HT := Aside0.mk ht
  have KD := Aside0.mk (fun (w1 : World) (t1 : Tab w1) => impl_pair_block.calls (key.take 8) (key.drop 8) b false w1 (by rw [List.length_take]; omega) (hkb.take 8) (by rw [List.length_drop]; omega) (hkb.drop 8) h8 hb t1)
  rw [List.take_append_drop] at KD
  obtain ⟨res, hres⟩ : ∃ r, r = tdeaL (key.take 8) (key.drop 8) b false := ⟨_, rfl⟩
  have HL : Aside0 (res.length = 8) := ⟨by rw [hres]; exact tdeaL_length _ _ _ _ h8⟩
  rw [← hres] at KD ⊢
  have HK := Aside0.mk hk
  have HB8 := Aside0.mk h8
  clear hres hk hkb h8 hb ht
  go_enter Tryd.func54, Tryd.ntmps54
  have B0 : Blk (w.alloc (.cells (nums .u8 key).toArray 41)) w.heap.size .u8 41 key := blk_new w _
  have B1 : Blk ((w.alloc (.cells (nums .u8 key).toArray 41)).alloc (.cells (nums .u8 b).toArray 38)) (w.heap.size + 1) .u8 38 b := by
    have h_ := blk_new (w.alloc (.cells (nums .u8 key).toArray 41)) (.cells (nums .u8 b).toArray 38)
    simpa [Blk] using h_
  have B2 : Blk (((w.alloc (.cells (nums .u8 key).toArray 41)).alloc (.cells (nums .u8 b).toArray 38)).alloc (.cells #[.int .u8 0, .int .u8 0, .int .u8 0, .int .u8 0, .int .u8 0, .int .u8 0, .int .u8 0, .int .u8 0] 38)) (w.heap.size + 1 + 1) .u8 38 [0, 0, 0, 0, 0, 0, 0, 0] := by
    have h_ := blk_new ((w.alloc (.cells (nums .u8 key).toArray 41)).alloc (.cells (nums .u8 b).toArray 38)) (.cells (nums .u8 [0, 0, 0, 0, 0, 0, 0, 0]).toArray 38)
    simpa [Blk, nums] using h_
  have BW : Below w.heap.size w (((w.alloc (.cells (nums .u8 key).toArray 41)).alloc (.cells (nums .u8 b).toArray 38)).alloc (.cells #[.int .u8 0, .int .u8 0, .int .u8 0, .int .u8 0, .int .u8 0, .int .u8 0, .int .u8 0, .int .u8 0] 38)) := (((Below.refl _ _).alloc (Nat.le_refl _) _).alloc (by simp) _).alloc (by simp; omega) _
  replace B0 := Aside0.mk ((B0.alloc (.cells (nums .u8 b).toArray 38)).alloc (.cells #[.int .u8 0, .int .u8 0, .int .u8 0, .int .u8 0, .int .u8 0, .int .u8 0, .int .u8 0, .int .u8 0] 38))
  replace B1 := Aside0.mk (B1.alloc (.cells #[.int .u8 0, .int .u8 0, .int .u8 0, .int .u8 0, .int .u8 0, .int .u8 0, .int .u8 0, .int .u8 0] 38))
  replace B2 := Aside0.mk B2
  replace BW := Aside0.mk BW
  go_wp2_with (first | (with_reducible refine wpList_load_blkS rfl 41 (.tmp 2) rfl w.heap.size rfl Tryd.underlying41 rfl info41 B0.out HK.out ?_) | (with_reducible refine wpList_load_blk rfl 38 (.tmp 3) rfl (w.heap.size + 1) rfl Tryd.underlying38 info8 B1.out HB8.out ?_) | (go_at_call 38; go_must (refine (KD.out _ ?tt).mono ?_; (case tt => exact HT.out.below BW.out); rintro e w1 ⟨rfl, hb1⟩; have HZ := Aside0.mk (B2.out.below hb1); have HW := Aside0.mk (below_step BW.out hb1); clear hb1)) | (with_reducible refine wpList_store_blk rfl 38 (.tmp 4) (.tmp 7) rfl (w.heap.size + 1 + 1) rfl info8 rfl HZ.out rfl HL.out ?_))
  refine bodyPost_ret (results_blk rfl _ _ (w.heap.size + 1 + 1) Tryd.underlying38 info8 rfl (HZ.out.setRow _) HL.out) rfl ⟨rfl, below_setRow HW.out (by omega) _⟩

end Go.Proofs.YtbjlpdfhjapbkaaDoor
