/- Contract of impl.Des where it answers a block. Conditions: 8 bytes and 8 bytes; the tables lie there. -/
import Derived.Test.YtbjlpdfhjapbkaaDoorDes
import Derived.Deep.RegionHeld3
namespace Go.Proofs.YtbjlpdfhjapbkaaDoor
open Go.RowKit Go.Proofs.YtbjlpdfhjapbkaaDoorW.PrintWords Go.Proofs.YtbjlpdfhjapbkaaDoorW.PrintLast Go.Proofs.YtbjlpdfhjapbkaaDoorW.PrintMore Go.Proofs.YtbjlpdfhjapbkaaDoor.D Go.Proofs.YtbjlpdfhjapbkaaDoor.B
set_option linter.unusedVariables false

theorem eight (l : List Int) (h : l.length = 8) : ∃ a b c d e f g i, l = [a, b, c, d, e, f, g, i] := by
  obtain ⟨k0, k1, k2, k3, k4, k5, k6, k7, t, rfl⟩ := list8 (l := l) (by omega)
  obtain rfl : t = [] := List.length_eq_zero_iff.1 (by simpa using h)
  exact ⟨_, _, _, _, _, _, _, _, rfl⟩
theorem cells8 {w : World} {A : Option Addr} {a b c d e f g i : Int} (h : Kd.C (Kd.int .u8) w A 8 [a, b, c, d, e, f, g, i]) :
    ∃ ad : Addr, A = some ad ∧ w.cell? ad = some (.int .u8 a) ∧ w.cell? ⟨ad.block, ad.off + 1, none⟩ = some (.int .u8 b) ∧ w.cell? ⟨ad.block, ad.off + 2, none⟩ = some (.int .u8 c) ∧ w.cell? ⟨ad.block, ad.off + 3, none⟩ = some (.int .u8 d) ∧ w.cell? ⟨ad.block, ad.off + 4, none⟩ = some (.int .u8 e) ∧ w.cell? ⟨ad.block, ad.off + 5, none⟩ = some (.int .u8 f) ∧ w.cell? ⟨ad.block, ad.off + 6, none⟩ = some (.int .u8 g) ∧ w.cell? ⟨ad.block, ad.off + 7, none⟩ = some (.int .u8 i) := by
  obtain ⟨ad, rfl, hc⟩ := C_cells (l := [a, b, c, d, e, f, g, i]) h (by simp)
  exact ⟨ad, rfl, hc 0 _ rfl, hc 1 _ rfl, hc 2 _ rfl, hc 3 _ rfl, hc 4 _ rfl, hc 5 _ rfl, hc 6 _ rfl, hc 7 _ rfl⟩

theorem array_at {P : Program} {t e : TypeId} {n m : Nat} (ht : P.underlying t = some (.array n e)) (h : n ≤ m) (A : Option Addr) (c : Nat) (w : World) : (Instr.arrayAt t (.slice A m c)).run P w = .ok (.pointer A) w := by
  have : ¬ m < n := by omega
  simp [Instr.arrayAt, run_underlying ht, this]
/-- Eight cells of a block, none frozen. -/
theorem blk8 {w : World} {g : Nat} {t : TypeId} {a b c d e f h i : Int} (hb : Blk w g .u8 t [a, b, c, d, e, f, h, i]) :
    (w.cell? ⟨g, 0, none⟩ = some (.int .u8 a) ∧ w.cell? ⟨g, 1, none⟩ = some (.int .u8 b) ∧ w.cell? ⟨g, 2, none⟩ = some (.int .u8 c) ∧ w.cell? ⟨g, 3, none⟩ = some (.int .u8 d) ∧ w.cell? ⟨g, 4, none⟩ = some (.int .u8 e) ∧ w.cell? ⟨g, 5, none⟩ = some (.int .u8 f) ∧ w.cell? ⟨g, 6, none⟩ = some (.int .u8 h) ∧ w.cell? ⟨g, 7, none⟩ = some (.int .u8 i)) ∧
    w.frozen? ⟨g, 0, none⟩ = false ∧ w.frozen? ⟨g, 1, none⟩ = false ∧ w.frozen? ⟨g, 2, none⟩ = false ∧ w.frozen? ⟨g, 3, none⟩ = false ∧ w.frozen? ⟨g, 4, none⟩ = false ∧ w.frozen? ⟨g, 5, none⟩ = false ∧ w.frozen? ⟨g, 6, none⟩ = false ∧ w.frozen? ⟨g, 7, none⟩ = false :=
  ⟨⟨hb.cell 0 (by simp), hb.cell 1 (by simp), hb.cell 2 (by simp), hb.cell 3 (by simp), hb.cell 4 (by simp), hb.cell 5 (by simp), hb.cell 6 (by simp), hb.cell 7 (by simp)⟩, hb.free 0, hb.free 1, hb.free 2, hb.free 3, hb.free 4, hb.free 5, hb.free 6, hb.free 7⟩
theorem blk8_new (w : World) {w1 : World} (hb : Below (w.alloc (.cells #[.int .u8 0, .int .u8 0, .int .u8 0, .int .u8 0, .int .u8 0, .int .u8 0, .int .u8 0, .int .u8 0] 38)).heap.size (w.alloc (.cells #[.int .u8 0, .int .u8 0, .int .u8 0, .int .u8 0, .int .u8 0, .int .u8 0, .int .u8 0, .int .u8 0] 38)) w1) : Blk w1 w.heap.size .u8 38 [0, 0, 0, 0, 0, 0, 0, 0] :=
  (show Blk (w.alloc (.cells #[.int .u8 0, .int .u8 0, .int .u8 0, .int .u8 0, .int .u8 0, .int .u8 0, .int .u8 0, .int .u8 0] 38)) w.heap.size .u8 38 [0, 0, 0, 0, 0, 0, 0, 0] from blk_new w (.cells (nums .u8 [0, 0, 0, 0, 0, 0, 0, 0]).toArray 38)).below hb
theorem blk_of8 (w : World) (r0 r1 r2 r3 r4 r5 r6 r7 : Int) : Blk (w.alloc (.cells #[.int .u8 r0, .int .u8 r1, .int .u8 r2, .int .u8 r3, .int .u8 r4, .int .u8 r5, .int .u8 r6, .int .u8 r7] 38)) w.heap.size .u8 38 [r0, r1, r2, r3, r4, r5, r6, r7] :=
  blk_new w (.cells (nums .u8 [r0, r1, r2, r3, r4, r5, r6, r7]).toArray 38)
theorem blk_set8 {w : World} {g : Nat} {t : TypeId} (h : Blk w g .u8 t [0, 0, 0, 0, 0, 0, 0, 0]) (r0 r1 r2 r3 r4 r5 r6 r7 : Int) :
    Blk ((((((((w.setCell ⟨g, 0, none⟩ (.int .u8 r0)).setCell ⟨g, 1, none⟩ (.int .u8 r1)).setCell ⟨g, 2, none⟩ (.int .u8 r2)).setCell ⟨g, 3, none⟩ (.int .u8 r3)).setCell ⟨g, 4, none⟩ (.int .u8 r4)).setCell ⟨g, 5, none⟩ (.int .u8 r5)).setCell ⟨g, 6, none⟩ (.int .u8 r6)).setCell ⟨g, 7, none⟩ (.int .u8 r7)) g .u8 t [r0, r1, r2, r3, r4, r5, r6, r7] :=
  (((((((h.set 0 r0).set 1 r1).set 2 r2).set 3 r3).set 4 r4).set 5 r5).set 6 r6).set 7 r7
theorem below_set8 {b : Nat} {w0 w : World} {g : Nat} (h : Below b w0 w) (hg : b ≤ g) (r0 r1 r2 r3 r4 r5 r6 r7 : Value) :
    Below b w0 ((((((((w.setCell ⟨g, 0, none⟩ r0).setCell ⟨g, 1, none⟩ r1).setCell ⟨g, 2, none⟩ r2).setCell ⟨g, 3, none⟩ r3).setCell ⟨g, 4, none⟩ r4).setCell ⟨g, 5, none⟩ r5).setCell ⟨g, 6, none⟩ r6).setCell ⟨g, 7, none⟩ r7) :=
  (((((((h.setCell (p := ⟨g, 0, none⟩) hg r0).setCell (p := ⟨g, 1, none⟩) hg r1).setCell (p := ⟨g, 2, none⟩) hg r2).setCell (p := ⟨g, 3, none⟩) hg r3).setCell (p := ⟨g, 4, none⟩) hg r4).setCell (p := ⟨g, 5, none⟩) hg r5).setCell (p := ⟨g, 6, none⟩) hg r6).setCell (p := ⟨g, 7, none⟩) hg r7
set_option maxHeartbeats 4000000 in
theorem impl_Des.calls8 (A0 : Option Addr) (c0 : Nat) (l0 : List Int) (A1 : Option Addr) (c1 : Nat) (l1 : List Int) (dec : Bool) (w : World) (hr0 : Kd.C (Kd.int .u8) w A0 l0.length l0) (hc0 : l0.length ≤ c0) (hr1 : Kd.C (Kd.int .u8) w A1 l1.length l1) (hc1 : l1.length ≤ c1)
    (h0 : l0.length = 8) (hb0 : Bytes l0) (h1 : l1.length = 8) (hb1 : Bytes l1) (ht : Tab w) :
    Calls Tryd.prog 15 #[.slice A0 l0.length c0, .slice A1 l1.length c1, .bool dec] w fun e w' => ∃ v0_ : Value, e = .returned (v0_) ∧ Kd.R (Kd.int .u8) 38 w' w.heap.size (fun _ => True) v0_ (desL l0 l1 dec) ∧ Below w.heap.size w w' := by
  obtain ⟨a0, a1, a2, a3, a4, a5, a6, a7, rfl⟩ := eight l0 h0
  obtain ⟨d0, d1, d2, d3, d4, d5, d6, d7, rfl⟩ := eight l1 h1
  have HT := Aside0.mk ht
  have KD := Aside0.mk (fun (w1 : World) (t1 : Tab w1) => impl_des.calls [a0, a1, a2, a3, a4, a5, a6, a7] [d0, d1, d2, d3, d4, d5, d6, d7] dec w1 h0 hb0 h1 hb1 t1)
  have HL : Aside0 ((desL [a0, a1, a2, a3, a4, a5, a6, a7] [d0, d1, d2, d3, d4, d5, d6, d7] dec).length = 8) := ⟨desL_length _ _ _ h1⟩
  obtain ⟨res, hres⟩ : ∃ r, r = desL [a0, a1, a2, a3, a4, a5, a6, a7] [d0, d1, d2, d3, d4, d5, d6, d7] dec := ⟨_, rfl⟩
  rw [← hres] at HL KD ⊢
  clear hres h0 hb0 h1 hb1 ht
  obtain ⟨r0, r1, r2, r3, r4, r5, r6, r7, rfl⟩ := eight res HL.out
  simp only [nums, List.map_cons, List.map_nil] at KD
  obtain ⟨ad0, rfl, x0, x1, x2, x3, x4, x5, x6, x7⟩ := cells8 hr0
  obtain ⟨ad1, rfl, y0, y1, y2, y3, y4, y5, y6, y7⟩ := cells8 hr1
  have nn0 := World.new_ne w ad0 x0
  have nn1 := World.new_ne w ad1 y0
  have HRC0 := Aside0.mk hr0
  have HRC1 := Aside0.mk hr1
  clear hr0 hr1
  simp only [List.length_cons, List.length_nil, Nat.zero_add, Nat.reduceAdd] at hc0 hc1 ⊢
  go_enter Tryd.func15, Tryd.ntmps15
  go_upto_region 3 with fail
  have hta := fun (A : Option Addr) (c : Nat) (w1 : World) => array_at (P := Tryd.prog) (t := 38) Tryd.underlying38 (Nat.le_refl 8) A c w1
  go_cut [7] from 17 (fun s7 wc => ∃ g : Nat, s7 = .pointer (some ⟨g, 0, none⟩) ∧ Aside0 (w.heap.size ≤ g ∧ Blk wc g .u8 38 [r0, r1, r2, r3, r4, r5, r6, r7]) ∧ Aside0 (Below w.heap.size w wc))
  case first =>
    go_region_held3 (fun w' => w'.cell? ad0 = some (.int .u8 a0) ∧ w'.cell? ⟨ad0.block, ad0.off + 1, none⟩ = some (.int .u8 a1) ∧ w'.cell? ⟨ad0.block, ad0.off + 2, none⟩ = some (.int .u8 a2) ∧ w'.cell? ⟨ad0.block, ad0.off + 3, none⟩ = some (.int .u8 a3) ∧ w'.cell? ⟨ad0.block, ad0.off + 4, none⟩ = some (.int .u8 a4) ∧ w'.cell? ⟨ad0.block, ad0.off + 5, none⟩ = some (.int .u8 a5) ∧ w'.cell? ⟨ad0.block, ad0.off + 6, none⟩ = some (.int .u8 a6) ∧ w'.cell? ⟨ad0.block, ad0.off + 7, none⟩ = some (.int .u8 a7) ∧ w'.cell? ad1 = some (.int .u8 d0) ∧ w'.cell? ⟨ad1.block, ad1.off + 1, none⟩ = some (.int .u8 d1) ∧ w'.cell? ⟨ad1.block, ad1.off + 2, none⟩ = some (.int .u8 d2) ∧ w'.cell? ⟨ad1.block, ad1.off + 3, none⟩ = some (.int .u8 d3) ∧ w'.cell? ⟨ad1.block, ad1.off + 4, none⟩ = some (.int .u8 d4) ∧ w'.cell? ⟨ad1.block, ad1.off + 5, none⟩ = some (.int .u8 d5) ∧ w'.cell? ⟨ad1.block, ad1.off + 6, none⟩ = some (.int .u8 d6) ∧ w'.cell? ⟨ad1.block, ad1.off + 7, none⟩ = some (.int .u8 d7))
      (go_keep)
      (first | (go_at_call 36; go_must (refine (KD.out _ ?tt).mono ?_; (case tt => exact HT.out.below (by repeat (first | exact Below.refl _ _ | apply below_drew1 | apply below_alloc))); rintro e w1 ⟨rfl, hb1⟩; (first | (have hz0 := blk8_new w (below_then (below_drew1 (Below.refl _ _)) (Nat.le_refl _) hb1); have hz := blk8 hz0; have HZ := Aside0.mk hz0; clear hz0; obtain ⟨⟨z0, z1, z2, z3, z4, z5, z6, z7⟩, f0, f1, f2, f3, f4, f5, f6, f7⟩ := hz; have HB1 := Aside0.mk (below_then (below_drew1 (below_alloc (Below.refl w.heap.size w) (.cells #[.int .u8 0, .int .u8 0, .int .u8 0, .int .u8 0, .int .u8 0, .int .u8 0, .int .u8 0, .int .u8 0] 38))) (by simp) hb1); clear hb1) | (have hz := blk8 (blk8_new w1 (Below.refl _ _)); obtain ⟨⟨z0, z1, z2, z3, z4, z5, z6, z7⟩, f0, f1, f2, f3, f4, f5, f6, f7⟩ := hz; have HB1 := Aside0.mk (below_then (below_drew1 (Below.refl w.heap.size w)) (Nat.le_refl _) hb1); clear hb1)); obtain ⟨_, e0', x0', x1', x2', x3', x4', x5', x6', x7'⟩ := cells8 (Kd.C_below HRC0.out HB1.out); cases e0'; obtain ⟨_, e1', y0', y1', y2', y3', y4', y5', y6', y7'⟩ := cells8 (Kd.C_below HRC1.out HB1.out); cases e1'; have nn0' := World.new_ne w1 ad0 x0'; have nn1' := World.new_ne w1 ad1 y0')))
    all_goals go_wp2
    all_goals go_meet
    all_goals (case rel =>
      refine ⟨_, rfl, ?_, ?_⟩
      · first | with_reducible exact ⟨⟨Nat.le_refl _, blk_set8 HZ.out _ _ _ _ _ _ _ _⟩⟩ | with_reducible exact ⟨⟨HB1.out.size, blk_of8 w1 _ _ _ _ _ _ _ _⟩⟩
      · first | with_reducible exact ⟨below_set8 HB1.out (Nat.le_refl _) _ _ _ _ _ _ _ _⟩ | with_reducible exact ⟨HB1.out.alloc HB1.out.size _⟩)
  case rest =>
    obtain ⟨g, rfl, H1, H2⟩ := hcut
    go_wp2
    go_ret
    exact ⟨_, rfl, H1.out.2.R H1.out.1 rfl (by omega), H2.out⟩

theorem empty_R (w : World) (o : Obj) (ho : o = .cells #[] 5) : Kd.R (Kd.int .u8) 5 (w.alloc o) w.heap.size (fun _ => True) (.slice (some ⟨w.heap.size, 0, none⟩) 0 0) [] := by
  subst ho
  have h0 : Blk (w.alloc (Obj.cells #[] 5)) w.heap.size .u8 5 [] := by
    have := Blk.new w .u8 5 []
    simpa [nums] using this
  exact h0.R (Nat.le_refl _) rfl (by omega)
set_option maxHeartbeats 1000000 in
theorem impl_Des.calls0 (A0 : Option Addr) (c0 : Nat) (n0 : Nat) (A1 : Option Addr) (c1 : Nat) (n1 : Nat) (dec : Bool) (w : World) (h : ¬ (n0 = 8 ∧ n1 = 8)) :
    Calls Tryd.prog 15 #[.slice A0 n0 c0, .slice A1 n1 c1, .bool dec] w fun e w' => ∃ v0_ : Value, e = .returned (v0_) ∧ Kd.R (Kd.int .u8) 5 w' w.heap.size (fun _ => True) v0_ [] ∧ Below w.heap.size w w' := by
  by_cases h0 : n0 = 8
  · have b0 : ((n0 : Int) != 8) = false := by rw [bne_eq_false_iff_eq]; omega
    have b1 : ((n1 : Int) != 8) = true := by rw [bne_iff_ne]; omega
    clear h
    go_enter Tryd.func15, Tryd.ntmps15
    go_wp2_with fail
    go_ret
    exact ⟨_, rfl, empty_R _ _ rfl, (Below.refl _ _).alloc (Nat.le_refl _) _⟩
  · have b0 : ((n0 : Int) != 8) = true := by rw [bne_iff_ne]; omega
    clear h
    go_enter Tryd.func15, Tryd.ntmps15
    go_wp2_with fail
    go_ret
    exact ⟨_, rfl, empty_R _ _ rfl, (Below.refl _ _).alloc (Nat.le_refl _) _⟩
end Go.Proofs.YtbjlpdfhjapbkaaDoor
