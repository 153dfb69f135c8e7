/- Contract of impl.pairOf: the 16 bytes as one value. Condition: 16 bytes. · Contract of impl's pair.block: triple DES of a block. Conditions: two keys of 8 bytes, a block of 8 bytes; the tables lie there. · Contracts of impl.Tdea. Conditions: bytes; the tables lie there. -/
import Derived.Test.YtbjlpdfhjapbkaaDoorDesW
namespace Go.Proofs.YtbjlpdfhjapbkaaDoor
open Go.RowKit Go.Proofs.YtbjlpdfhjapbkaaDoorW.PrintWords Go.Proofs.YtbjlpdfhjapbkaaDoorW.PrintLast Go.Proofs.YtbjlpdfhjapbkaaDoorW.PrintMore Go.Proofs.YtbjlpdfhjapbkaaDoor.D Go.Proofs.YtbjlpdfhjapbkaaDoor.B
set_option linter.unusedVariables false

theorem sixteen (l : List Int) (h : l.length = 16) : ∃ a0 a1 a2 a3 a4 a5 a6 a7 a8 a9 a10 a11 a12 a13 a14 a15, l = [a0, a1, a2, a3, a4, a5, a6, a7, a8, a9, a10, a11, a12, a13, a14, a15] := by
  match l, h with
  | [a0, a1, a2, a3, a4, a5, a6, a7, a8, a9, a10, a11, a12, a13, a14, a15], _ => exact ⟨_, _, _, _, _, _, _, _, _, _, _, _, _, _, _, _, rfl⟩
theorem cells16 {w : World} {A : Option Addr} {a0 a1 a2 a3 a4 a5 a6 a7 a8 a9 a10 a11 a12 a13 a14 a15 : Int} (h : Kd.C (Kd.int .u8) w A 16 [a0, a1, a2, a3, a4, a5, a6, a7, a8, a9, a10, a11, a12, a13, a14, a15]) :
    ∃ ad : Addr, A = some ad ∧ w.cell? ad = some (.int .u8 a0) ∧ w.cell? ⟨ad.block, ad.off + 1, none⟩ = some (.int .u8 a1) ∧ w.cell? ⟨ad.block, ad.off + 2, none⟩ = some (.int .u8 a2) ∧ w.cell? ⟨ad.block, ad.off + 3, none⟩ = some (.int .u8 a3) ∧ w.cell? ⟨ad.block, ad.off + 4, none⟩ = some (.int .u8 a4) ∧ w.cell? ⟨ad.block, ad.off + 5, none⟩ = some (.int .u8 a5) ∧ w.cell? ⟨ad.block, ad.off + 6, none⟩ = some (.int .u8 a6) ∧ w.cell? ⟨ad.block, ad.off + 7, none⟩ = some (.int .u8 a7) ∧ w.cell? ⟨ad.block, ad.off + 8, none⟩ = some (.int .u8 a8) ∧ w.cell? ⟨ad.block, ad.off + 9, none⟩ = some (.int .u8 a9) ∧ w.cell? ⟨ad.block, ad.off + 10, none⟩ = some (.int .u8 a10) ∧ w.cell? ⟨ad.block, ad.off + 11, none⟩ = some (.int .u8 a11) ∧ w.cell? ⟨ad.block, ad.off + 12, none⟩ = some (.int .u8 a12) ∧ w.cell? ⟨ad.block, ad.off + 13, none⟩ = some (.int .u8 a13) ∧ w.cell? ⟨ad.block, ad.off + 14, none⟩ = some (.int .u8 a14) ∧ w.cell? ⟨ad.block, ad.off + 15, none⟩ = some (.int .u8 a15) := by
  obtain ⟨ad, rfl, hc⟩ := C_cells (l := [a0, a1, a2, a3, a4, a5, a6, a7, a8, a9, a10, a11, a12, a13, a14, a15]) h (by simp)
  exact ⟨ad, rfl, hc 0 _ rfl, hc 1 _ rfl, hc 2 _ rfl, hc 3 _ rfl, hc 4 _ rfl, hc 5 _ rfl, hc 6 _ rfl, hc 7 _ rfl, hc 8 _ rfl, hc 9 _ rfl, hc 10 _ rfl, hc 11 _ rfl, hc 12 _ rfl, hc 13 _ rfl, hc 14 _ rfl, hc 15 _ rfl⟩
theorem info41 : (Tryd.prog.info? 41).map (·.size) = some 16 := by kernel_rfl

set_option maxHeartbeats 4000000 in
theorem impl_pairOf.calls (A0 : Option Addr) (c0 : Nat) (l0 : List Int) (w : World) (hr0 : Kd.C (Kd.int .u8) w A0 16 l0) (hc0 : 16 ≤ c0) (h0 : l0.length = 16) :
    Calls Tryd.prog 37 #[.slice A0 16 c0] w fun e w' => e = .returned (.agg (nums .u8 l0).toArray) ∧ Below w.heap.size w w' := by
  obtain ⟨a0, a1, a2, a3, a4, a5, a6, a7, a8, a9, a10, a11, a12, a13, a14, a15, rfl⟩ := sixteen l0 h0
  obtain ⟨ad, rfl, x0, x1, x2, x3, x4, x5, x6, x7, x8, x9, x10, x11, x12, x13, x14, x15⟩ := cells16 hr0
  have nn0 := World.new_ne w ad x0
  clear hr0 h0
  have e0 : ¬ c0 = 8 := by omega
  have i1 : (8 : Int) ≤ (c0 : Int) := by omega
  have i2 : (16 : Int) ≤ (c0 : Int) := by omega
  have e1 : 8 ≤ c0 := by omega
  have hta := fun (A : Option Addr) (c : Nat) (w1 : World) => array_at (P := Tryd.prog) (t := 38) Tryd.underlying38 (Nat.le_refl 8) A c w1
  go_enter Tryd.func37, Tryd.ntmps37
  go_wp2_with fail
  go_region_held3 (fun w' => w'.cell? ad = some (.int .u8 a0) ∧ w'.cell? ⟨ad.block, ad.off + 1, none⟩ = some (.int .u8 a1) ∧ w'.cell? ⟨ad.block, ad.off + 2, none⟩ = some (.int .u8 a2) ∧ w'.cell? ⟨ad.block, ad.off + 3, none⟩ = some (.int .u8 a3) ∧ w'.cell? ⟨ad.block, ad.off + 4, none⟩ = some (.int .u8 a4) ∧ w'.cell? ⟨ad.block, ad.off + 5, none⟩ = some (.int .u8 a5) ∧ w'.cell? ⟨ad.block, ad.off + 6, none⟩ = some (.int .u8 a6) ∧ w'.cell? ⟨ad.block, ad.off + 7, none⟩ = some (.int .u8 a7) ∧ w'.cell? ⟨ad.block, ad.off + 8, none⟩ = some (.int .u8 a8) ∧ w'.cell? ⟨ad.block, ad.off + 9, none⟩ = some (.int .u8 a9) ∧ w'.cell? ⟨ad.block, ad.off + 10, none⟩ = some (.int .u8 a10) ∧ w'.cell? ⟨ad.block, ad.off + 11, none⟩ = some (.int .u8 a11) ∧ w'.cell? ⟨ad.block, ad.off + 12, none⟩ = some (.int .u8 a12) ∧ w'.cell? ⟨ad.block, ad.off + 13, none⟩ = some (.int .u8 a13) ∧ w'.cell? ⟨ad.block, ad.off + 14, none⟩ = some (.int .u8 a14) ∧ w'.cell? ⟨ad.block, ad.off + 15, none⟩ = some (.int .u8 a15))
    (go_keep)
    (fail)
  all_goals
    go_wp2
    have hz : ((w.alloc (.cells (nums .u8 [a0, a1, a2, a3, a4, a5, a6, a7, a8, a9, a10, a11, a12, a13, a14, a15]).toArray 41)).drew).heap[w.heap.size]? = some (.cells (nums .u8 [a0, a1, a2, a3, a4, a5, a6, a7, a8, a9, a10, a11, a12, a13, a14, a15]).toArray 41) := blk_new w (.cells (nums .u8 [a0, a1, a2, a3, a4, a5, a6, a7, a8, a9, a10, a11, a12, a13, a14, a15]).toArray 41)
    refine bodyPost_ret (results_cell_row rfl _ _ w.heap.size 41 (nums .u8 [a0, a1, a2, a3, a4, a5, a6, a7, a8, a9, a10, a11, a12, a13, a14, a15]).toArray (0, 0) _ rfl hz Tryd.underlying41 rfl (by rw [info41]; rfl)) rfl ⟨rfl, below_drew1 ((Below.refl _ _).alloc (Nat.le_refl _) _)⟩
end Go.Proofs.YtbjlpdfhjapbkaaDoor

namespace Go.Proofs.YtbjlpdfhjapbkaaDoor
open Go.RowKit Go.Proofs.YtbjlpdfhjapbkaaDoorW.PrintWords Go.Proofs.YtbjlpdfhjapbkaaDoorW.PrintLast Go.Proofs.YtbjlpdfhjapbkaaDoorW.PrintMore Go.Proofs.YtbjlpdfhjapbkaaDoor.D Go.Proofs.YtbjlpdfhjapbkaaDoor.B
set_option linter.unusedVariables false

def tdeaL (k1 k2 b : List Int) (dec : Bool) : List Int := desL k1 (desL k2 (desL k1 b dec) (!dec)) dec
theorem tdeaL_length (k1 k2 b : List Int) (dec : Bool) (h : b.length = 8) : (tdeaL k1 k2 b dec).length = 8 := desL_length _ _ _ (desL_length _ _ _ (desL_length _ _ _ h))
theorem tdeaL_bytes (k1 k2 b : List Int) (dec : Bool) (h : b.length = 8) : Bytes (tdeaL k1 k2 b dec) := desL_bytes _ _ _ (desL_length _ _ _ (desL_length _ _ _ h))
theorem blk_cells {w : World} {g : Nat} {t : TypeId} {l : List Int} (h : Blk w g .u8 t l) (i : Nat) (x : Int) (hi : l[i]? = some x) : w.cell? ⟨g, i, none⟩ = some (.int .u8 x) := by
  obtain ⟨hl, he⟩ := List.getElem?_eq_some_iff.1 hi
  rw [h.cell i hl, nth_at _ _ hl, he]
theorem pb_cells {w : World} {g g' : Nat} {t t' : TypeId} {a0 a1 a2 a3 a4 a5 a6 a7 b0 b1 b2 b3 b4 b5 b6 b7 d0 d1 d2 d3 d4 d5 d6 d7 : Int} (h : Blk w g .u8 t [a0, a1, a2, a3, a4, a5, a6, a7, b0, b1, b2, b3, b4, b5, b6, b7]) (h' : Blk w g' .u8 t' [d0, d1, d2, d3, d4, d5, d6, d7]) :
    w.cell? ⟨g, 0, none⟩ = some (.int .u8 a0) ∧ w.cell? ⟨g, 1, none⟩ = some (.int .u8 a1) ∧ w.cell? ⟨g, 2, none⟩ = some (.int .u8 a2) ∧ w.cell? ⟨g, 3, none⟩ = some (.int .u8 a3) ∧ w.cell? ⟨g, 4, none⟩ = some (.int .u8 a4) ∧ w.cell? ⟨g, 5, none⟩ = some (.int .u8 a5) ∧ w.cell? ⟨g, 6, none⟩ = some (.int .u8 a6) ∧ w.cell? ⟨g, 7, none⟩ = some (.int .u8 a7) ∧ w.cell? ⟨g, 8, none⟩ = some (.int .u8 b0) ∧ w.cell? ⟨g, 9, none⟩ = some (.int .u8 b1) ∧ w.cell? ⟨g, 10, none⟩ = some (.int .u8 b2) ∧ w.cell? ⟨g, 11, none⟩ = some (.int .u8 b3) ∧ w.cell? ⟨g, 12, none⟩ = some (.int .u8 b4) ∧ w.cell? ⟨g, 13, none⟩ = some (.int .u8 b5) ∧ w.cell? ⟨g, 14, none⟩ = some (.int .u8 b6) ∧ w.cell? ⟨g, 15, none⟩ = some (.int .u8 b7) ∧ w.cell? ⟨g', 0, none⟩ = some (.int .u8 d0) ∧ w.cell? ⟨g', 1, none⟩ = some (.int .u8 d1) ∧ w.cell? ⟨g', 2, none⟩ = some (.int .u8 d2) ∧ w.cell? ⟨g', 3, none⟩ = some (.int .u8 d3) ∧ w.cell? ⟨g', 4, none⟩ = some (.int .u8 d4) ∧ w.cell? ⟨g', 5, none⟩ = some (.int .u8 d5) ∧ w.cell? ⟨g', 6, none⟩ = some (.int .u8 d6) ∧ w.cell? ⟨g', 7, none⟩ = some (.int .u8 d7) :=
  ⟨blk_cells h 0 _ rfl, blk_cells h 1 _ rfl, blk_cells h 2 _ rfl, blk_cells h 3 _ rfl, blk_cells h 4 _ rfl, blk_cells h 5 _ rfl, blk_cells h 6 _ rfl, blk_cells h 7 _ rfl, blk_cells h 8 _ rfl, blk_cells h 9 _ rfl, blk_cells h 10 _ rfl, blk_cells h 11 _ rfl, blk_cells h 12 _ rfl, blk_cells h 13 _ rfl, blk_cells h 14 _ rfl, blk_cells h 15 _ rfl, blk_cells h' 0 _ rfl, blk_cells h' 1 _ rfl, blk_cells h' 2 _ rfl, blk_cells h' 3 _ rfl, blk_cells h' 4 _ rfl, blk_cells h' 5 _ rfl, blk_cells h' 6 _ rfl, blk_cells h' 7 _ rfl⟩
theorem blk_new_then (w : World) (k : IntKind) (t : TypeId) (xs : List Int) (o : Obj) : Blk ((w.alloc (.cells (nums k xs).toArray t)).alloc o) w.heap.size k t xs := (Blk.new w k t xs).alloc o
theorem pb_world (w : World) (a0 a1 a2 a3 a4 a5 a6 a7 b0 b1 b2 b3 b4 b5 b6 b7 d0 d1 d2 d3 d4 d5 d6 d7 : Int) : ∃ W : World, W = (((w.alloc (.cells #[.int .u8 a0, .int .u8 a1, .int .u8 a2, .int .u8 a3, .int .u8 a4, .int .u8 a5, .int .u8 a6, .int .u8 a7, .int .u8 b0, .int .u8 b1, .int .u8 b2, .int .u8 b3, .int .u8 b4, .int .u8 b5, .int .u8 b6, .int .u8 b7] 41)).alloc (.cells #[.int .u8 d0, .int .u8 d1, .int .u8 d2, .int .u8 d3, .int .u8 d4, .int .u8 d5, .int .u8 d6, .int .u8 d7] 38)).alloc (.cells #[.int .u8 0, .int .u8 0, .int .u8 0, .int .u8 0, .int .u8 0, .int .u8 0, .int .u8 0, .int .u8 0] 38)) ∧ Blk W w.heap.size .u8 41 [a0, a1, a2, a3, a4, a5, a6, a7, b0, b1, b2, b3, b4, b5, b6, b7] ∧ Blk W (w.heap.size + 1) .u8 38 [d0, d1, d2, d3, d4, d5, d6, d7] ∧ Blk W (w.heap.size + 1 + 1) .u8 38 [0, 0, 0, 0, 0, 0, 0, 0] ∧ Below w.heap.size w W := by
  refine ⟨_, rfl, ?_, ?_, ?_, (((Below.refl _ _).alloc (Nat.le_refl _) _).alloc (by simp) _).alloc (by simp; omega) _⟩
  · exact (show Blk _ _ _ _ _ from blk_new w (.cells (nums .u8 [a0, a1, a2, a3, a4, a5, a6, a7, b0, b1, b2, b3, b4, b5, b6, b7]).toArray 41)).alloc _ |>.alloc _
  · have h_ := blk_new_then (w.alloc (.cells #[.int .u8 a0, .int .u8 a1, .int .u8 a2, .int .u8 a3, .int .u8 a4, .int .u8 a5, .int .u8 a6, .int .u8 a7, .int .u8 b0, .int .u8 b1, .int .u8 b2, .int .u8 b3, .int .u8 b4, .int .u8 b5, .int .u8 b6, .int .u8 b7] 41)) .u8 38 [d0, d1, d2, d3, d4, d5, d6, d7] (.cells #[.int .u8 0, .int .u8 0, .int .u8 0, .int .u8 0, .int .u8 0, .int .u8 0, .int .u8 0, .int .u8 0] 38)
    simpa [Blk, nums] using h_
  · have h_ := blk_new ((w.alloc (.cells #[.int .u8 a0, .int .u8 a1, .int .u8 a2, .int .u8 a3, .int .u8 a4, .int .u8 a5, .int .u8 a6, .int .u8 a7, .int .u8 b0, .int .u8 b1, .int .u8 b2, .int .u8 b3, .int .u8 b4, .int .u8 b5, .int .u8 b6, .int .u8 b7] 41)).alloc (.cells #[.int .u8 d0, .int .u8 d1, .int .u8 d2, .int .u8 d3, .int .u8 d4, .int .u8 d5, .int .u8 d6, .int .u8 d7] 38)) (.cells (nums .u8 [0, 0, 0, 0, 0, 0, 0, 0]).toArray 38)
    simpa [Blk, nums] using h_
set_option maxHeartbeats 4000000 in
theorem impl_pair_block.calls (k1 k2 b : List Int) (dec : Bool) (w : World) (h1 : k1.length = 8) (hb1 : Bytes k1) (h2 : k2.length = 8) (hb2 : Bytes k2) (h3 : b.length = 8) (hb3 : Bytes b) (ht : Tab w) :
    Calls Tryd.prog 38 #[.agg (nums .u8 (k1 ++ k2)).toArray, .agg (nums .u8 b).toArray, .bool dec] w fun e w' => e = .returned (.agg (nums .u8 (tdeaL k1 k2 b dec)).toArray) ∧ Below w.heap.size w w' := by
  have HT := Aside0.mk ht
  have KD1 := Aside0.mk (fun (w1 : World) (t1 : Tab w1) => impl_des.calls k1 b dec w1 h1 hb1 h3 hb3 t1)
  obtain ⟨R1, hR1⟩ : ∃ r, r = desL k1 b dec := ⟨_, rfl⟩
  have hl1 : R1.length = 8 := hR1 ▸ desL_length _ _ _ h3
  have hy1 : Bytes R1 := hR1 ▸ desL_bytes _ _ _ h3
  have KD2 := Aside0.mk (fun (w1 : World) (t1 : Tab w1) => impl_des.calls k2 R1 (!dec) w1 h2 hb2 hl1 hy1 t1)
  obtain ⟨R2, hR2⟩ : ∃ r, r = desL k2 R1 (!dec) := ⟨_, rfl⟩
  have hl2 : R2.length = 8 := hR2 ▸ desL_length _ _ _ hl1
  have hy2 : Bytes R2 := hR2 ▸ desL_bytes _ _ _ hl1
  have KD3 := Aside0.mk (fun (w1 : World) (t1 : Tab w1) => impl_des.calls k1 R2 dec w1 h1 hb1 hl2 hy2 t1)
  obtain ⟨R3, hR3⟩ : ∃ r, r = desL k1 R2 dec := ⟨_, rfl⟩
  have hl3 : R3.length = 8 := hR3 ▸ desL_length _ _ _ hl2
  have hE : tdeaL k1 k2 b dec = R3 := by rw [hR3, hR2, hR1]; rfl
  rw [hE]
  rw [← hR1] at KD1
  rw [← hR2] at KD2
  rw [← hR3] at KD3
  clear hR1 hR2 hR3 hE ht hb1 hb2 hb3 hy1 hy2
  obtain ⟨u1, hu1⟩ : ∃ u, u = Value.agg (nums .u8 R1).toArray := ⟨_, rfl⟩
  obtain ⟨u2, hu2⟩ : ∃ u, u = Value.agg (nums .u8 R2).toArray := ⟨_, rfl⟩
  rw [← hu1] at KD1 KD2
  rw [← hu2] at KD2 KD3
  clear hu1 hu2 hl1 hl2
  obtain ⟨a0, a1, a2, a3, a4, a5, a6, a7, rfl⟩ := eight k1 h1
  obtain ⟨b0, b1, b2, b3, b4, b5, b6, b7, rfl⟩ := eight k2 h2
  obtain ⟨d0, d1, d2, d3, d4, d5, d6, d7, rfl⟩ := eight b h3
  obtain ⟨r0, r1, r2, r3, r4, r5, r6, r7, rfl⟩ := eight R3 hl3
  simp only [nums, List.map_cons, List.map_nil, List.cons_append, List.nil_append] at KD1 KD2 KD3 ⊢
  clear h1 h2 h3 hl3
  go_enter Tryd.func38, Tryd.ntmps38
  go_upto_region 1 with fail
  obtain ⟨W, hW, B0, B1, B2, BW⟩ := pb_world w a0 a1 a2 a3 a4 a5 a6 a7 b0 b1 b2 b3 b4 b5 b6 b7 d0 d1 d2 d3 d4 d5 d6 d7
  rw [← hW]
  clear hW
  obtain ⟨x0, x1, x2, x3, x4, x5, x6, x7, x8, x9, x10, x11, x12, x13, x14, x15, y0, y1, y2, y3, y4, y5, y6, y7⟩ := pb_cells B0 B1
  have P0 := Aside0.mk B0
  have P1 := Aside0.mk B1
  have P2 := Aside0.mk B2
  have PW := Aside0.mk BW
  clear B0 B1 B2 BW
  have nn0 : w.heap.size + 1 + 1 ≠ w.heap.size := by omega
  have nn1 : w.heap.size + 1 + 1 ≠ w.heap.size + 1 := by omega
  go_region_held3 (fun w' => w'.cell? ⟨w.heap.size, 0, none⟩ = some (.int .u8 a0) ∧ w'.cell? ⟨w.heap.size, 1, none⟩ = some (.int .u8 a1) ∧ w'.cell? ⟨w.heap.size, 2, none⟩ = some (.int .u8 a2) ∧ w'.cell? ⟨w.heap.size, 3, none⟩ = some (.int .u8 a3) ∧ w'.cell? ⟨w.heap.size, 4, none⟩ = some (.int .u8 a4) ∧ w'.cell? ⟨w.heap.size, 5, none⟩ = some (.int .u8 a5) ∧ w'.cell? ⟨w.heap.size, 6, none⟩ = some (.int .u8 a6) ∧ w'.cell? ⟨w.heap.size, 7, none⟩ = some (.int .u8 a7) ∧ w'.cell? ⟨w.heap.size, 8, none⟩ = some (.int .u8 b0) ∧ w'.cell? ⟨w.heap.size, 9, none⟩ = some (.int .u8 b1) ∧ w'.cell? ⟨w.heap.size, 10, none⟩ = some (.int .u8 b2) ∧ w'.cell? ⟨w.heap.size, 11, none⟩ = some (.int .u8 b3) ∧ w'.cell? ⟨w.heap.size, 12, none⟩ = some (.int .u8 b4) ∧ w'.cell? ⟨w.heap.size, 13, none⟩ = some (.int .u8 b5) ∧ w'.cell? ⟨w.heap.size, 14, none⟩ = some (.int .u8 b6) ∧ w'.cell? ⟨w.heap.size, 15, none⟩ = some (.int .u8 b7) ∧ w'.cell? ⟨w.heap.size + 1, 0, none⟩ = some (.int .u8 d0) ∧ w'.cell? ⟨w.heap.size + 1, 1, none⟩ = some (.int .u8 d1) ∧ w'.cell? ⟨w.heap.size + 1, 2, none⟩ = some (.int .u8 d2) ∧ w'.cell? ⟨w.heap.size + 1, 3, none⟩ = some (.int .u8 d3) ∧ w'.cell? ⟨w.heap.size + 1, 4, none⟩ = some (.int .u8 d4) ∧ w'.cell? ⟨w.heap.size + 1, 5, none⟩ = some (.int .u8 d5) ∧ w'.cell? ⟨w.heap.size + 1, 6, none⟩ = some (.int .u8 d6) ∧ w'.cell? ⟨w.heap.size + 1, 7, none⟩ = some (.int .u8 d7))
    (go_keep)
    (first
      | (go_at_call 36; with_reducible refine (KD1.out _ ?tt).mono ?_; go_must ((case tt => exact HT.out.below (below_drew1 PW.out)); rintro e w1 ⟨rfl, hb1⟩; have Q1 := Aside0.mk (below_then (below_drew1 (Below.refl W.heap.size W)) (Nat.le_refl _) hb1); clear hb1; obtain ⟨x0_1, x1_1, x2_1, x3_1, x4_1, x5_1, x6_1, x7_1, x8_1, x9_1, x10_1, x11_1, x12_1, x13_1, x14_1, x15_1, y0_1, y1_1, y2_1, y3_1, y4_1, y5_1, y6_1, y7_1⟩ := pb_cells (P0.out.below Q1.out) (P1.out.below Q1.out)))
      | (go_at_call 36; with_reducible refine (KD2.out _ ?tt).mono ?_; go_must ((case tt => exact HT.out.below (below_step PW.out Q1.out)); rintro e w2 ⟨rfl, hb2⟩; have Q2 := Aside0.mk (below_then Q1.out Q1.out.size hb2); clear hb2; obtain ⟨x0_2, x1_2, x2_2, x3_2, x4_2, x5_2, x6_2, x7_2, x8_2, x9_2, x10_2, x11_2, x12_2, x13_2, x14_2, x15_2, y0_2, y1_2, y2_2, y3_2, y4_2, y5_2, y6_2, y7_2⟩ := pb_cells (P0.out.below Q2.out) (P1.out.below Q2.out)))
      | (go_at_call 36; with_reducible refine (KD3.out _ ?tt).mono ?_; go_must ((case tt => exact HT.out.below (below_step PW.out Q2.out)); rintro e w3 ⟨rfl, hb3⟩; have Q3 := Aside0.mk (below_then Q2.out Q2.out.size hb3); clear hb3; have hz := blk8 (P2.out.below Q3.out); obtain ⟨⟨z0, z1, z2, z3, z4, z5, z6, z7⟩, f0, f1, f2, f3, f4, f5, f6, f7⟩ := hz; obtain ⟨x0_3, x1_3, x2_3, x3_3, x4_3, x5_3, x6_3, x7_3, x8_3, x9_3, x10_3, x11_3, x12_3, x13_3, x14_3, x15_3, y0_3, y1_3, y2_3, y3_3, y4_3, y5_3, y6_3, y7_3⟩ := pb_cells (P0.out.below Q3.out) (P1.out.below Q3.out))))
  go_wp2
  refine bodyPost_ret (results_blk rfl _ _ (w.heap.size + 1 + 1) Tryd.underlying38 info8 rfl (blk_set8 (P2.out.below Q3.out) _ _ _ _ _ _ _ _) rfl) rfl ⟨rfl, below_set8 (below_step PW.out Q3.out) (by omega) _ _ _ _ _ _ _ _⟩
end Go.Proofs.YtbjlpdfhjapbkaaDoor

namespace Go.Proofs.YtbjlpdfhjapbkaaDoor
open Go.RowKit Go.Proofs.YtbjlpdfhjapbkaaDoorW.PrintWords Go.Proofs.YtbjlpdfhjapbkaaDoorW.PrintLast Go.Proofs.YtbjlpdfhjapbkaaDoorW.PrintMore Go.Proofs.YtbjlpdfhjapbkaaDoor.D Go.Proofs.YtbjlpdfhjapbkaaDoor.B
set_option linter.unusedVariables false

set_option maxHeartbeats 4000000 in
theorem impl_Tdea.calls8 (A0 : Option Addr) (c0 : Nat) (l0 : List Int) (A1 : Option Addr) (c1 : Nat) (l1 : List Int) (dec : Bool) (w : World) (hr0 : Kd.C (Kd.int .u8) w A0 l0.length l0) (hc0 : l0.length ≤ c0) (hr1 : Kd.C (Kd.int .u8) w A1 l1.length l1) (hc1 : l1.length ≤ c1)
    (h0 : l0.length = 16) (hb0 : Bytes l0) (h1 : l1.length = 8) (hb1 : Bytes l1) (ht : Tab w) :
    Calls Tryd.prog 16 #[.slice A0 l0.length c0, .slice A1 l1.length c1, .bool dec] w fun e w' => ∃ v0_ : Value, e = .returned (v0_) ∧ Kd.R (Kd.int .u8) 38 w' w.heap.size (fun _ => True) v0_ (tdeaL (l0.take 8) (l0.drop 8) l1 dec) ∧ Below w.heap.size w w' := by
  rw [h0] at hr0 hc0 ⊢
  have hl2 : (tdeaL (l0.take 8) (l0.drop 8) l1 dec).length = 8 := tdeaL_length _ _ _ _ h1
  have HT := Aside0.mk ht
  have KP := Aside0.mk (fun (w1 : World) (hC : Kd.C (Kd.int .u8) w1 A0 16 l0) => impl_pairOf.calls A0 c0 l0 w1 hC hc0 h0)
  have KB := Aside0.mk (fun (w1 : World) (t1 : Tab w1) => impl_pair_block.calls (l0.take 8) (l0.drop 8) l1 dec w1 (by rw [List.length_take]; omega) (hb0.take 8) (by rw [List.length_drop]; omega) (hb0.drop 8) h1 hb1 t1)
  rw [List.take_append_drop] at KB
  obtain ⟨u1, hu1⟩ : ∃ u, u = Value.agg (nums .u8 l0).toArray := ⟨_, rfl⟩
  rw [← hu1] at KP KB
  obtain ⟨res, hres⟩ : ∃ r, r = tdeaL (l0.take 8) (l0.drop 8) l1 dec := ⟨_, rfl⟩
  rw [← hres] at KB hl2 ⊢
  have HRC0 := Aside0.mk hr0
  clear hres hu1 ht h0 hb0 hb1 hr0
  obtain ⟨r0, r1, r2, r3, r4, r5, r6, r7, rfl⟩ := eight res hl2
  obtain ⟨d0, d1, d2, d3, d4, d5, d6, d7, rfl⟩ := eight l1 h1
  clear hl2 h1
  simp only [nums, List.map_cons, List.map_nil] at KB
  obtain ⟨ad1, rfl, y0, y1, y2, y3, y4, y5, y6, y7⟩ := cells8 hr1
  have nn1 := World.new_ne w ad1 y0
  have HRC1 := Aside0.mk hr1
  clear hr1
  simp only [List.length_cons, List.length_nil, Nat.zero_add, Nat.reduceAdd] at hc1 ⊢
  go_enter Tryd.func16, Tryd.ntmps16
  go_upto_region 3 with fail
  have hta := fun (A : Option Addr) (c : Nat) (w1 : World) => array_at (P := Tryd.prog) (t := 38) Tryd.underlying38 (Nat.le_refl 8) A c w1
  go_cut [7] from 17 (fun s7 wc => ∃ g : Nat, s7 = .pointer (some ⟨g, 0, none⟩) ∧ Aside0 (w.heap.size ≤ g ∧ Blk wc g .u8 38 [r0, r1, r2, r3, r4, r5, r6, r7]) ∧ Aside0 (Below w.heap.size w wc))
  case first =>
    go_region_held3 (fun w' => w'.cell? ad1 = some (.int .u8 d0) ∧ w'.cell? ⟨ad1.block, ad1.off + 1, none⟩ = some (.int .u8 d1) ∧ w'.cell? ⟨ad1.block, ad1.off + 2, none⟩ = some (.int .u8 d2) ∧ w'.cell? ⟨ad1.block, ad1.off + 3, none⟩ = some (.int .u8 d3) ∧ w'.cell? ⟨ad1.block, ad1.off + 4, none⟩ = some (.int .u8 d4) ∧ w'.cell? ⟨ad1.block, ad1.off + 5, none⟩ = some (.int .u8 d5) ∧ w'.cell? ⟨ad1.block, ad1.off + 6, none⟩ = some (.int .u8 d6) ∧ w'.cell? ⟨ad1.block, ad1.off + 7, none⟩ = some (.int .u8 d7))
      (go_keep)
      (first
        | (go_at_call 37; go_must (refine (KP.out _ ?cc).mono ?_; (case cc => exact Kd.C_below HRC0.out (by repeat (first | exact Below.refl _ _ | apply below_drew1 | apply below_alloc))); rintro e w1 ⟨rfl, hb1⟩; (first | (have HZ := Aside0.mk (blk8_new w (below_then (below_drew1 (Below.refl _ _)) (Nat.le_refl _) hb1)); have HB1 := Aside0.mk (below_then (below_drew1 (below_alloc (Below.refl w.heap.size w) (.cells #[.int .u8 0, .int .u8 0, .int .u8 0, .int .u8 0, .int .u8 0, .int .u8 0, .int .u8 0, .int .u8 0] 38))) (by simp) hb1); clear hb1) | (have HB1 := Aside0.mk (below_then (below_drew1 (Below.refl w.heap.size w)) (Nat.le_refl _) hb1); clear hb1)); obtain ⟨_, e1', y0', y1', y2', y3', y4', y5', y6', y7'⟩ := cells8 (Kd.C_below HRC1.out HB1.out); cases e1'; have nn1' := World.new_ne w1 ad1 y0'))
        | (go_at_call 38; go_must (refine (KB.out _ ?tt).mono ?_; (case tt => exact HT.out.below (by repeat (first | exact HB1.out | apply below_alloc))); rintro e w2 ⟨rfl, hb2⟩; (first | (have HZ2 := Aside0.mk (HZ.out.below hb2); have HZ3 := HZ2; have HB2 := Aside0.mk (below_step HB1.out hb2); clear hb2 HZ) | (have HZ2 := Aside0.mk (blk8_new w1 hb2); have HZ4 := HZ2; have HB2 := Aside0.mk (below_then (below_alloc HB1.out (.cells #[.int .u8 0, .int .u8 0, .int .u8 0, .int .u8 0, .int .u8 0, .int .u8 0, .int .u8 0, .int .u8 0] 38)) (by have := HB1.out.size; simp; omega) hb2); clear hb2) | (have HZ2 := Aside0.mk (blk8_new w2 (Below.refl _ _)); have HB2 := Aside0.mk (below_step HB1.out hb2); clear hb2)); have hz := blk8 HZ2.out; obtain ⟨⟨z0, z1, z2, z3, z4, z5, z6, z7⟩, f0, f1, f2, f3, f4, f5, f6, f7⟩ := hz; obtain ⟨_, e1'', y0'', y1'', y2'', y3'', y4'', y5'', y6'', y7''⟩ := cells8 (Kd.C_below HRC1.out HB2.out); cases e1''; have nn1'' := World.new_ne w2 ad1 y0'')))
    all_goals go_wp2
    all_goals go_meet
    all_goals (case rel =>
      refine ⟨_, rfl, ?_, ?_⟩
      · first | with_reducible exact ⟨⟨Nat.le_refl _, blk_set8 HZ3.out _ _ _ _ _ _ _ _⟩⟩ | with_reducible exact ⟨⟨HB1.out.size, blk_set8 HZ4.out _ _ _ _ _ _ _ _⟩⟩ | with_reducible exact ⟨⟨HB2.out.size, blk_of8 w2 _ _ _ _ _ _ _ _⟩⟩
      · first | with_reducible exact ⟨below_set8 HB2.out (Nat.le_refl _) _ _ _ _ _ _ _ _⟩ | with_reducible exact ⟨below_set8 HB2.out HB1.out.size _ _ _ _ _ _ _ _⟩ | with_reducible exact ⟨HB2.out.alloc HB2.out.size _⟩)
  case rest =>
    obtain ⟨g, rfl, H1, H2⟩ := hcut
    go_wp2
    go_ret
    exact ⟨_, rfl, H1.out.2.R H1.out.1 rfl (by omega), H2.out⟩
set_option maxHeartbeats 1000000 in
theorem impl_Tdea.calls0 (A0 : Option Addr) (c0 : Nat) (n0 : Nat) (A1 : Option Addr) (c1 : Nat) (n1 : Nat) (dec : Bool) (w : World) (h : ¬ (n0 = 16 ∧ n1 = 8)) :
    Calls Tryd.prog 16 #[.slice A0 n0 c0, .slice A1 n1 c1, .bool dec] w fun e w' => ∃ v0_ : Value, e = .returned (v0_) ∧ Kd.R (Kd.int .u8) 5 w' w.heap.size (fun _ => True) v0_ [] ∧ Below w.heap.size w w' := by
  by_cases h0 : n0 = 16
  · have b0 : ((n0 : Int) != 16) = false := by rw [bne_eq_false_iff_eq]; omega
    have b1 : ((n1 : Int) != 8) = true := by rw [bne_iff_ne]; omega
    clear h
    go_enter Tryd.func16, Tryd.ntmps16
    go_wp2_with fail
    go_ret
    exact ⟨_, rfl, empty_R _ _ rfl, (Below.refl _ _).alloc (Nat.le_refl _) _⟩
  · have b0 : ((n0 : Int) != 16) = true := by rw [bne_iff_ne]; omega
    clear h
    go_enter Tryd.func16, Tryd.ntmps16
    go_wp2_with fail
    go_ret
    exact ⟨_, rfl, empty_R _ _ rfl, (Below.refl _ _).alloc (Nat.le_refl _) _⟩
end Go.Proofs.YtbjlpdfhjapbkaaDoor
