/- Contract of the closure in impl.DukptKey: half a step. Conditions: a key of 16 bytes; the captured word is a number of 64 bits; the tables lie there. -/
import Derived.Test.YtbjlpdfhjapbkaaDoorXorW
import Derived.Deep.RegionWith
import Derived.Deep.CutRange
import Derived.Test.YtbjlpdfhjapbkaaDoorDkStep
namespace Go.Proofs.YtbjlpdfhjapbkaaDoor
open Go.RowKit Go.Proofs.YtbjlpdfhjapbkaaDoorW.PrintWords Go.Proofs.YtbjlpdfhjapbkaaDoorW.PrintLast Go.Proofs.YtbjlpdfhjapbkaaDoorW.PrintMore Go.Proofs.YtbjlpdfhjapbkaaDoor.D
open Go.Proofs.YtbjlpdfhjapbkaaDoor.B (xorL xorL_length)
set_option linter.unusedVariables false

set_option maxHeartbeats 8000000 in
theorem impl_half.calls (A0 : Option Addr) (c0 : Nat) (key : List Int) (gR : Nat) (bs : List Int) (w : World) (hr0 : Kd.C (Kd.int .u8) w A0 key.length key) (hc0 : key.length ≤ c0) (hk : key.length = 16) (hkb : Bytes key) (h64 : bs.length = 64) (hbs : Bits bs)
    (hR : w.cell? ⟨gR, 0, none⟩ = some (.int .u64 (num bs))) (ht : Tab w) :
    Calls Tryd.prog 58 #[.slice A0 key.length c0, .pointer (some ⟨gR, 0, none⟩)] w fun e w' => ∃ g : Nat, e = .returned (.slice (some ⟨g, 0, none⟩) 8 8) ∧ w.heap.size ≤ g ∧ Blk w' g .u8 38 (halfL key (unbits bs)) ∧ Below w.heap.size w w' := by
  have HT := Aside0.mk ht
  have hd : (key.drop 8).length = 8 := by rw [List.length_drop]; omega
  have htk : (key.take 8).length = 8 := by rw [List.length_take]; omega
  have hul : (unbits bs).length = 8 := unbits_length 8 bs (by omega)
  have hub : Bytes (unbits bs) := unbits_bytes 8 bs (by omega) hbs
  have KB := Aside0.mk (fun (w1 : World) => impl_blockOf.calls bs w1 h64 hbs)
  have KX1 := Aside0.mk (fun (g c : Nat) (w1 : World) (h : Blk w1 g .u8 38 (unbits bs ++ key.drop 8)) => xor8_two (unbits bs) (key.drop 8) hul hub hd g c 38 w1 h)
  have hx : (xorL (unbits bs) (key.drop 8)).length = 8 := by rw [xorL_length _ _ (by omega), hul]
  have hxB : Bytes (xorL (unbits bs) (key.drop 8)) := xorL_bytes _ _ hub (hkb.drop 8)
  have KD := Aside0.mk (fun (w1 : World) (t1 : Tab w1) => impl_des.calls (key.take 8) (xorL (unbits bs) (key.drop 8)) false w1 htk (hkb.take 8) hx hxB t1)
  obtain ⟨D, hD⟩ : ∃ D, D = desL (key.take 8) (xorL (unbits bs) (key.drop 8)) false := ⟨_, rfl⟩
  have hDl : D.length = 8 := hD ▸ desL_length _ _ _ hx
  have hDb : Bytes D := hD ▸ desL_bytes _ _ _ hx
  have KX2 := Aside0.mk (fun (g c : Nat) (w1 : World) (h : Blk w1 g .u8 38 (D ++ key.drop 8)) => xor8_two D (key.drop 8) hDl hDb hd g c 38 w1 h)
  have hH : halfL key (unbits bs) = xorL D (key.drop 8) := by rw [hD]; rfl
  have hHl : (xorL D (key.drop 8)).length = 8 := by rw [xorL_length _ _ (by omega), hDl]
  obtain ⟨H, hHd⟩ : ∃ H, H = xorL D (key.drop 8) := ⟨_, rfl⟩
  rw [← hHd] at KX2 hH hHl
  rw [hH]
  rw [← hD] at KD
  obtain ⟨u1, hu1⟩ : ∃ u, u = Value.agg (nums .u8 (xorL (unbits bs) (key.drop 8))).toArray := ⟨_, rfl⟩
  rw [← hu1] at KX1 KD
  obtain ⟨ub, hubd⟩ : ∃ u, u = unbits bs := ⟨_, rfl⟩
  rw [← hubd] at KB KX1 hul
  obtain ⟨rv, hrv⟩ : ∃ v, v = num bs := ⟨_, rfl⟩
  rw [← hrv] at KB hR
  clear hu1 hHd hH hD hx hxB hDb hub hubd hrv hkb ht hd htk
  obtain ⟨a0, a1, a2, a3, a4, a5, a6, a7, b0, b1, b2, b3, b4, b5, b6, b7, rfl⟩ := sixteen key hk
  obtain ⟨p0, p1, p2, p3, p4, p5, p6, p7, rfl⟩ := eight ub hul
  obtain ⟨d0, d1, d2, d3, d4, d5, d6, d7, rfl⟩ := eight D hDl
  obtain ⟨r0, r1, r2, r3, r4, r5, r6, r7, rfl⟩ := eight H hHl
  simp only [nums, List.take_succ_cons, List.take_zero, List.drop_succ_cons, List.drop_zero, List.map_cons, List.map_nil] at KB KX1 KX2 KD
  obtain ⟨ad, rfl, x0, x1, x2, x3, x4, x5, x6, x7, x8, x9, x10, x11, x12, x13, x14, x15⟩ := cells16 hr0
  have HR0 := Aside0.mk hr0
  have HRC := Aside0.mk hR
  have nn0 := World.new_ne w ad x0
  have nnR : w.heap.size + 1 ≠ ad.block := by have := World.block_lt_of_cell? w ad x0; omega
  clear hr0 hk hul hDl hHl hR
  simp only [List.length_cons, List.length_nil, Nat.zero_add, Nat.reduceAdd] at hc0 ⊢
  have e0 : ¬ c0 = 8 := by omega
  have i1 : (8 : Int) ≤ (c0 : Int) := by omega
  have i2 : (16 : Int) ≤ (c0 : Int) := by omega
  have e1 : 8 ≤ c0 := by omega
  have hta := fun (A : Option Addr) (c : Nat) (w1 : World) => array_at (P := Tryd.prog) (t := 38) Tryd.underlying38 (Nat.le_refl 8) A c w1
  go_enter Tryd.func58, Tryd.ntmps58
  go_upto_region 1 with fail
  go_cut [4, 5] from 7 (fun s4 s5 wc => ∃ g4 g5 : Nat, s4 = .pointer (some ⟨g4, 0, none⟩) ∧ s5 = .pointer (some ⟨g5, 0, none⟩) ∧ Aside0 (Blk wc g4 .u8 38 [a0, a1, a2, a3, a4, a5, a6, a7]) ∧ Aside0 (Blk wc g5 .u8 38 [b0, b1, b2, b3, b4, b5, b6, b7]) ∧ Aside0 (Below w.heap.size w wc))
  case first =>
    go_region_held3 (fun w' => w'.cell? ad = some (.int .u8 a0) ∧ w'.cell? ⟨ad.block, ad.off + 1, none⟩ = some (.int .u8 a1) ∧ w'.cell? ⟨ad.block, ad.off + 2, none⟩ = some (.int .u8 a2) ∧ w'.cell? ⟨ad.block, ad.off + 3, none⟩ = some (.int .u8 a3) ∧ w'.cell? ⟨ad.block, ad.off + 4, none⟩ = some (.int .u8 a4) ∧ w'.cell? ⟨ad.block, ad.off + 5, none⟩ = some (.int .u8 a5) ∧ w'.cell? ⟨ad.block, ad.off + 6, none⟩ = some (.int .u8 a6) ∧ w'.cell? ⟨ad.block, ad.off + 7, none⟩ = some (.int .u8 a7) ∧ w'.cell? ⟨ad.block, ad.off + 8, none⟩ = some (.int .u8 b0) ∧ w'.cell? ⟨ad.block, ad.off + 9, none⟩ = some (.int .u8 b1) ∧ w'.cell? ⟨ad.block, ad.off + 10, none⟩ = some (.int .u8 b2) ∧ w'.cell? ⟨ad.block, ad.off + 11, none⟩ = some (.int .u8 b3) ∧ w'.cell? ⟨ad.block, ad.off + 12, none⟩ = some (.int .u8 b4) ∧ w'.cell? ⟨ad.block, ad.off + 13, none⟩ = some (.int .u8 b5) ∧ w'.cell? ⟨ad.block, ad.off + 14, none⟩ = some (.int .u8 b6) ∧ w'.cell? ⟨ad.block, ad.off + 15, none⟩ = some (.int .u8 b7))
      (go_keep)
      (fail)
    all_goals go_wp2
    all_goals go_meet
    all_goals (case rel => first | exact ⟨_, _, rfl, rfl, ⟨blk_new_then w .u8 38 [a0, a1, a2, a3, a4, a5, a6, a7] _⟩, ⟨blk_new_at1 w _ .u8 38 [b0, b1, b2, b3, b4, b5, b6, b7]⟩, ⟨below_drew1 (((Below.refl _ _).alloc (Nat.le_refl _) _).alloc (by simp) _)⟩⟩ | exact ⟨_, _, rfl, rfl, ⟨blk_new_at1 w _ .u8 38 [a0, a1, a2, a3, a4, a5, a6, a7]⟩, ⟨blk_new_then w .u8 38 [b0, b1, b2, b3, b4, b5, b6, b7] _⟩, ⟨below_drew1 (((Below.refl _ _).alloc (Nat.le_refl _) _).alloc (by simp) _)⟩⟩)
  case rest =>
    obtain ⟨wq, rfl⟩ : ∃ x, x = wc := ⟨_, rfl⟩
    obtain ⟨g4, g5, rfl, rfl, P4, P5, HB⟩ := hcut
    have hrq := (HB.out.cell (World.block_lt_of_cell? w _ HRC.out)).trans HRC.out
    have HRQ := Aside0.mk hrq
    obtain ⟨⟨v0, v1, v2, v3, v4, v5, v6, v7⟩, s0, s1, s2, s3, s4, s5, s6, s7⟩ := blk8 P4.out
    obtain ⟨⟨z0, z1, z2, z3, z4, z5, z6, z7⟩, t0, t1, t2, t3, t4, t5, t6, t7⟩ := blk8 P5.out
    have na := World.new_ne wq _ v0
    have nb := World.new_ne wq _ z0
    have nc := World.new_ne wq _ hrq
    have QQ : Aside0 (Below wq.heap.size wq wq.drew) := ⟨below_drew1 (Below.refl _ _)⟩
    clear x0 x1 x2 x3 x4 x5 x6 x7 x8 x9 x10 x11 x12 x13 x14 x15 nn0 nnR hta
    go_upto_region 2 with fail
    go_cut [6] from 15 (fun s6 wc => ∃ g6 : Nat, s6 = .pointer (some ⟨g6, 0, none⟩) ∧ Aside0 (wq.heap.size ≤ g6 ∧ Blk wc g6 .u8 38 [r0, r1, r2, r3, r4, r5, r6, r7]) ∧ Aside0 (Below wq.heap.size wq wc))
    case first =>
      go_region_held3 (fun w' => w'.cell? ⟨g4, 0, none⟩ = some (.int .u8 a0) ∧ w'.cell? ⟨g4, 1, none⟩ = some (.int .u8 a1) ∧ w'.cell? ⟨g4, 2, none⟩ = some (.int .u8 a2) ∧ w'.cell? ⟨g4, 3, none⟩ = some (.int .u8 a3) ∧ w'.cell? ⟨g4, 4, none⟩ = some (.int .u8 a4) ∧ w'.cell? ⟨g4, 5, none⟩ = some (.int .u8 a5) ∧ w'.cell? ⟨g4, 6, none⟩ = some (.int .u8 a6) ∧ w'.cell? ⟨g4, 7, none⟩ = some (.int .u8 a7) ∧ w'.cell? ⟨g5, 0, none⟩ = some (.int .u8 b0) ∧ w'.cell? ⟨g5, 1, none⟩ = some (.int .u8 b1) ∧ w'.cell? ⟨g5, 2, none⟩ = some (.int .u8 b2) ∧ w'.cell? ⟨g5, 3, none⟩ = some (.int .u8 b3) ∧ w'.cell? ⟨g5, 4, none⟩ = some (.int .u8 b4) ∧ w'.cell? ⟨g5, 5, none⟩ = some (.int .u8 b5) ∧ w'.cell? ⟨g5, 6, none⟩ = some (.int .u8 b6) ∧ w'.cell? ⟨g5, 7, none⟩ = some (.int .u8 b7) ∧ w'.cell? ⟨gR, 0, none⟩ = some (.int .u64 rv))
        (go_keep)
        (first
          | (go_at_call 59; go_must (refine (KB.out _).mono ?_; rintro e w1 ⟨rfl, hb⟩; (first | (have HZ := Aside0.mk (blk8_new wq (below_then (below_drew1 (Below.refl _ _)) (Nat.le_refl _) hb)); have QN := Aside0.mk (below_then (below_drew1 (below_alloc (Below.refl wq.heap.size wq) (.cells #[.int .u8 0, .int .u8 0, .int .u8 0, .int .u8 0, .int .u8 0, .int .u8 0, .int .u8 0, .int .u8 0] 38))) (by simp) hb)) | (have QN := Aside0.mk (below_then (below_drew1 (Below.refl wq.heap.size wq)) (Nat.le_refl _) hb))); clear QQ hb; have QQ := QN; clear QN; have HS1 := Aside0.mk QQ.out.size; obtain ⟨⟨x0_1, x1_1, x2_1, x3_1, x4_1, x5_1, x6_1, x7_1⟩, s0_1, s1_1, s2_1, s3_1, s4_1, s5_1, s6_1, s7_1⟩ := blk8 (P4.out.below QQ.out); obtain ⟨⟨y0_1, y1_1, y2_1, y3_1, y4_1, y5_1, y6_1, y7_1⟩, t0_1, t1_1, t2_1, t3_1, t4_1, t5_1, t6_1, t7_1⟩ := blk8 (P5.out.below QQ.out); have hr_1 := (QQ.out.cell (World.block_lt_of_cell? wq _ HRQ.out)).trans HRQ.out; have na1 := World.new_ne w1 _ x0_1; have nb1 := World.new_ne w1 _ y0_1; have nc1 := World.new_ne w1 _ hr_1; have nd1 : w1.heap.size + 1 ≠ g4 := (by have := World.block_lt_of_cell? w1 _ x0_1; dsimp only at this; omega); have ne1 : w1.heap.size + 1 ≠ g5 := (by have := World.block_lt_of_cell? w1 _ y0_1; dsimp only at this; omega); have nf1 : w1.heap.size + 1 ≠ gR := (by have := World.block_lt_of_cell? w1 _ hr_1; dsimp only at this; omega)))
          | (go_at_call 55; refine (KX1.out _ _ _ ?bb).mono ?_; (case bb => first | exact (show Blk _ _ _ _ _ from blk_new _ (.cells (nums .u8 [p0, p1, p2, p3, p4, p5, p6, p7, b0, b1, b2, b3, b4, b5, b6, b7]).toArray 38)) | exact (blk_new_then _ .u8 38 [p0, p1, p2, p3, p4, p5, p6, p7, b0, b1, b2, b3, b4, b5, b6, b7] _) | exact (blk_new_at1 _ _ .u8 38 [p0, p1, p2, p3, p4, p5, p6, p7, b0, b1, b2, b3, b4, b5, b6, b7])); go_must (rintro e w2 ⟨rfl, hb⟩; (first | (have HZN := Aside0.mk ((HZ.out.alloc (.cells #[.int .u8 p0, .int .u8 p1, .int .u8 p2, .int .u8 p3, .int .u8 p4, .int .u8 p5, .int .u8 p6, .int .u8 p7, .int .u8 b0, .int .u8 b1, .int .u8 b2, .int .u8 b3, .int .u8 b4, .int .u8 b5, .int .u8 b6, .int .u8 b7] 38)).below hb); clear HZ; have HZ := HZN; clear HZN) | (have HZ := Aside0.mk (blk8_new3 w1 (.cells #[.int .u8 p0, .int .u8 p1, .int .u8 p2, .int .u8 p3, .int .u8 p4, .int .u8 p5, .int .u8 p6, .int .u8 p7, .int .u8 b0, .int .u8 b1, .int .u8 b2, .int .u8 b3, .int .u8 b4, .int .u8 b5, .int .u8 b6, .int .u8 b7] 38) hb)) | (have HZ := Aside0.mk (blk8_new2 w1 (.cells #[.int .u8 p0, .int .u8 p1, .int .u8 p2, .int .u8 p3, .int .u8 p4, .int .u8 p5, .int .u8 p6, .int .u8 p7, .int .u8 b0, .int .u8 b1, .int .u8 b2, .int .u8 b3, .int .u8 b4, .int .u8 b5, .int .u8 b6, .int .u8 b7] 38) hb)) | skip); have QN := Aside0.mk (below_then (by repeat (first | exact QQ.out | apply below_alloc)) (by have := QQ.out.size; simp; try omega) hb); clear QQ hb; have QQ := QN; clear QN; have HS2 := Aside0.mk QQ.out.size; obtain ⟨⟨x0_2, x1_2, x2_2, x3_2, x4_2, x5_2, x6_2, x7_2⟩, s0_2, s1_2, s2_2, s3_2, s4_2, s5_2, s6_2, s7_2⟩ := blk8 (P4.out.below QQ.out); obtain ⟨⟨y0_2, y1_2, y2_2, y3_2, y4_2, y5_2, y6_2, y7_2⟩, t0_2, t1_2, t2_2, t3_2, t4_2, t5_2, t6_2, t7_2⟩ := blk8 (P5.out.below QQ.out); have hr_2 := (QQ.out.cell (World.block_lt_of_cell? wq _ HRQ.out)).trans HRQ.out; have na2 := World.new_ne w2 _ x0_2; have nb2 := World.new_ne w2 _ y0_2; have nc2 := World.new_ne w2 _ hr_2; have nd2 : w2.heap.size + 1 ≠ g4 := (by have := World.block_lt_of_cell? w2 _ x0_2; dsimp only at this; omega); have ne2 : w2.heap.size + 1 ≠ g5 := (by have := World.block_lt_of_cell? w2 _ y0_2; dsimp only at this; omega); have nf2 : w2.heap.size + 1 ≠ gR := (by have := World.block_lt_of_cell? w2 _ hr_2; dsimp only at this; omega)))
          | (go_at_call 36; go_must (refine (KD.out _ ?tt).mono ?_; (case tt => exact HT.out.below (below_step HB.out (by repeat (first | exact QQ.out | apply below_alloc)))); rintro e w3 ⟨rfl, hb⟩; (first | (have HZN := Aside0.mk (HZ.out.below hb); clear HZ; have HZ := HZN; clear HZN) | (have HZ := Aside0.mk (blk8_new w2 hb)) | skip); have QN := Aside0.mk (below_then (by repeat (first | exact QQ.out | apply below_alloc)) (by have := QQ.out.size; simp; try omega) hb); clear QQ hb; have QQ := QN; clear QN; have HS3 := Aside0.mk QQ.out.size; obtain ⟨⟨x0_3, x1_3, x2_3, x3_3, x4_3, x5_3, x6_3, x7_3⟩, s0_3, s1_3, s2_3, s3_3, s4_3, s5_3, s6_3, s7_3⟩ := blk8 (P4.out.below QQ.out); obtain ⟨⟨y0_3, y1_3, y2_3, y3_3, y4_3, y5_3, y6_3, y7_3⟩, t0_3, t1_3, t2_3, t3_3, t4_3, t5_3, t6_3, t7_3⟩ := blk8 (P5.out.below QQ.out); have hr_3 := (QQ.out.cell (World.block_lt_of_cell? wq _ HRQ.out)).trans HRQ.out; have na3 := World.new_ne w3 _ x0_3; have nb3 := World.new_ne w3 _ y0_3; have nc3 := World.new_ne w3 _ hr_3; have nd3 : w3.heap.size + 1 ≠ g4 := (by have := World.block_lt_of_cell? w3 _ x0_3; dsimp only at this; omega); have ne3 : w3.heap.size + 1 ≠ g5 := (by have := World.block_lt_of_cell? w3 _ y0_3; dsimp only at this; omega); have nf3 : w3.heap.size + 1 ≠ gR := (by have := World.block_lt_of_cell? w3 _ hr_3; dsimp only at this; omega)))
          | (go_at_call 55; refine (KX2.out _ _ _ ?bb).mono ?_; (case bb => first | exact (show Blk _ _ _ _ _ from blk_new _ (.cells (nums .u8 [d0, d1, d2, d3, d4, d5, d6, d7, b0, b1, b2, b3, b4, b5, b6, b7]).toArray 38)) | exact (blk_new_then _ .u8 38 [d0, d1, d2, d3, d4, d5, d6, d7, b0, b1, b2, b3, b4, b5, b6, b7] _) | exact (blk_new_at1 _ _ .u8 38 [d0, d1, d2, d3, d4, d5, d6, d7, b0, b1, b2, b3, b4, b5, b6, b7])); go_must (rintro e w4 ⟨rfl, hb⟩; (first | (have HZN := Aside0.mk ((HZ.out.alloc (.cells #[.int .u8 d0, .int .u8 d1, .int .u8 d2, .int .u8 d3, .int .u8 d4, .int .u8 d5, .int .u8 d6, .int .u8 d7, .int .u8 b0, .int .u8 b1, .int .u8 b2, .int .u8 b3, .int .u8 b4, .int .u8 b5, .int .u8 b6, .int .u8 b7] 38)).below hb); clear HZ; have HZ := HZN; clear HZN) | (have HZ := Aside0.mk (blk8_new3 w3 (.cells #[.int .u8 d0, .int .u8 d1, .int .u8 d2, .int .u8 d3, .int .u8 d4, .int .u8 d5, .int .u8 d6, .int .u8 d7, .int .u8 b0, .int .u8 b1, .int .u8 b2, .int .u8 b3, .int .u8 b4, .int .u8 b5, .int .u8 b6, .int .u8 b7] 38) hb)) | (have HZ := Aside0.mk (blk8_new2 w3 (.cells #[.int .u8 d0, .int .u8 d1, .int .u8 d2, .int .u8 d3, .int .u8 d4, .int .u8 d5, .int .u8 d6, .int .u8 d7, .int .u8 b0, .int .u8 b1, .int .u8 b2, .int .u8 b3, .int .u8 b4, .int .u8 b5, .int .u8 b6, .int .u8 b7] 38) hb)) | skip); have QN := Aside0.mk (below_then (by repeat (first | exact QQ.out | apply below_alloc)) (by have := QQ.out.size; simp; try omega) hb); clear QQ hb; have QQ := QN; clear QN; (first | (have hz := blk8 HZ.out; obtain ⟨⟨h0_, h1_, h2_, h3_, h4_, h5_, h6_, h7_⟩, j0_, j1_, j2_, j3_, j4_, j5_, j6_, j7_⟩ := hz) | (have hz := blk8 (blk8_new w4 (Below.refl _ _)); obtain ⟨⟨h0_, h1_, h2_, h3_, h4_, h5_, h6_, h7_⟩, j0_, j1_, j2_, j3_, j4_, j5_, j6_, j7_⟩ := hz)); obtain ⟨⟨x0_4, x1_4, x2_4, x3_4, x4_4, x5_4, x6_4, x7_4⟩, s0_4, s1_4, s2_4, s3_4, s4_4, s5_4, s6_4, s7_4⟩ := blk8 (P4.out.below QQ.out); obtain ⟨⟨y0_4, y1_4, y2_4, y3_4, y4_4, y5_4, y6_4, y7_4⟩, t0_4, t1_4, t2_4, t3_4, t4_4, t5_4, t6_4, t7_4⟩ := blk8 (P5.out.below QQ.out); have hr_4 := (QQ.out.cell (World.block_lt_of_cell? wq _ HRQ.out)).trans HRQ.out; have na4 := World.new_ne w4 _ x0_4; have nb4 := World.new_ne w4 _ y0_4; have nc4 := World.new_ne w4 _ hr_4; have nd4 : w4.heap.size + 1 ≠ g4 := (by have := World.block_lt_of_cell? w4 _ x0_4; dsimp only at this; omega); have ne4 : w4.heap.size + 1 ≠ g5 := (by have := World.block_lt_of_cell? w4 _ y0_4; dsimp only at this; omega); have nf4 : w4.heap.size + 1 ≠ gR := (by have := World.block_lt_of_cell? w4 _ hr_4; dsimp only at this; omega))))
      all_goals go_wp2
      all_goals go_meet
      all_goals (case rel =>
        refine ⟨_, rfl, ?_, ?_⟩
        · first | with_reducible exact ⟨⟨Nat.le_refl _, blk_set8 HZ.out _ _ _ _ _ _ _ _⟩⟩ | with_reducible exact ⟨⟨HS1.out, blk_set8 HZ.out _ _ _ _ _ _ _ _⟩⟩ | with_reducible exact ⟨⟨HS2.out, blk_set8 HZ.out _ _ _ _ _ _ _ _⟩⟩ | with_reducible exact ⟨⟨HS3.out, blk_set8 HZ.out _ _ _ _ _ _ _ _⟩⟩ | with_reducible exact ⟨⟨(Nat.le_succ_of_le HS1.out), blk_set8 HZ.out _ _ _ _ _ _ _ _⟩⟩ | with_reducible exact ⟨⟨(Nat.le_succ_of_le HS3.out), blk_set8 HZ.out _ _ _ _ _ _ _ _⟩⟩ | with_reducible exact ⟨⟨QQ.out.size, blk_of8 w4 _ _ _ _ _ _ _ _⟩⟩
        · first | with_reducible exact ⟨below_set8 QQ.out (Nat.le_refl _) _ _ _ _ _ _ _ _⟩ | with_reducible exact ⟨below_set8 QQ.out HS1.out _ _ _ _ _ _ _ _⟩ | with_reducible exact ⟨below_set8 QQ.out HS2.out _ _ _ _ _ _ _ _⟩ | with_reducible exact ⟨below_set8 QQ.out HS3.out _ _ _ _ _ _ _ _⟩ | with_reducible exact ⟨below_set8 QQ.out (Nat.le_succ_of_le HS1.out) _ _ _ _ _ _ _ _⟩ | with_reducible exact ⟨below_set8 QQ.out (Nat.le_succ_of_le HS3.out) _ _ _ _ _ _ _ _⟩ | with_reducible exact ⟨QQ.out.alloc QQ.out.size _⟩)
    case rest =>
      obtain ⟨g6, rfl, H1, H2⟩ := hcut
      go_wp2
      go_ret
      exact ⟨g6, rfl, Nat.le_trans HB.out.size H1.out.1, H1.out.2, below_step HB.out H2.out⟩
end Go.Proofs.YtbjlpdfhjapbkaaDoor
