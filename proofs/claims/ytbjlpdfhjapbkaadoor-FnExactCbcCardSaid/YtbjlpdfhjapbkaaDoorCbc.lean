/- Contracts of impl.Cbc. Conditions: bytes; the tables lie there. -/
import Derived.Test.YtbjlpdfhjapbkaaDoorChain
import Derived.Test.YtbjlpdfhjapbkaaDoorCv
namespace Go.Proofs.YtbjlpdfhjapbkaaDoor
open Go.RowKit Go.Proofs.YtbjlpdfhjapbkaaDoorW.PrintWords Go.Proofs.YtbjlpdfhjapbkaaDoorW.PrintLast Go.Proofs.YtbjlpdfhjapbkaaDoorW.PrintMore Go.Proofs.YtbjlpdfhjapbkaaDoor.D
open Go.Proofs.YtbjlpdfhjapbkaaDoor.B (xorL xorL_length)
set_option linter.unusedVariables false

def deS (F : List Int → List Int) (iv l : List Int) : Nat → List Int × List Int
  | 0 => (iv, [])
  | k + 1 => ((l.drop (8 * k)).take 8, (deS F iv l k).2 ++ xorL (F ((l.drop (8 * k)).take 8)) (deS F iv l k).1)
theorem blk_cells16 {w : World} {g : Nat} {t : TypeId} {a0 a1 a2 a3 a4 a5 a6 a7 b0 b1 b2 b3 b4 b5 b6 b7 : Int} (h : Blk w g .u8 t [a0, a1, a2, a3, a4, a5, a6, a7, b0, b1, b2, b3, b4, b5, b6, b7]) :
    w.cell? ⟨g, 0, none⟩ = some (.int .u8 a0) ∧ w.cell? ⟨g, 1, none⟩ = some (.int .u8 a1) ∧ w.cell? ⟨g, 2, none⟩ = some (.int .u8 a2) ∧ w.cell? ⟨g, 3, none⟩ = some (.int .u8 a3) ∧ w.cell? ⟨g, 4, none⟩ = some (.int .u8 a4) ∧ w.cell? ⟨g, 5, none⟩ = some (.int .u8 a5) ∧ w.cell? ⟨g, 6, none⟩ = some (.int .u8 a6) ∧ w.cell? ⟨g, 7, none⟩ = some (.int .u8 a7) ∧ w.cell? ⟨g, 8, none⟩ = some (.int .u8 b0) ∧ w.cell? ⟨g, 9, none⟩ = some (.int .u8 b1) ∧ w.cell? ⟨g, 10, none⟩ = some (.int .u8 b2) ∧ w.cell? ⟨g, 11, none⟩ = some (.int .u8 b3) ∧ w.cell? ⟨g, 12, none⟩ = some (.int .u8 b4) ∧ w.cell? ⟨g, 13, none⟩ = some (.int .u8 b5) ∧ w.cell? ⟨g, 14, none⟩ = some (.int .u8 b6) ∧ w.cell? ⟨g, 15, none⟩ = some (.int .u8 b7) :=
  ⟨blk_cells h 0 _ rfl, blk_cells h 1 _ rfl, blk_cells h 2 _ rfl, blk_cells h 3 _ rfl, blk_cells h 4 _ rfl, blk_cells h 5 _ rfl, blk_cells h 6 _ rfl, blk_cells h 7 _ rfl, blk_cells h 8 _ rfl, blk_cells h 9 _ rfl, blk_cells h 10 _ rfl, blk_cells h 11 _ rfl, blk_cells h 12 _ rfl, blk_cells h 13 _ rfl, blk_cells h 14 _ rfl, blk_cells h 15 _ rfl⟩
theorem deS_good (F : List Int → List Int) (hF : ∀ b, b.length = 8 → (F b).length = 8 ∧ Bytes (F b)) (iv l : List Int) (hiv : iv.length = 8) (hb : Bytes iv) (hl : Bytes l) : ∀ k, 8 * k ≤ l.length → (deS F iv l k).1.length = 8 ∧ Bytes (deS F iv l k).1 ∧ (deS F iv l k).2.length = 8 * k
  | 0, _ => ⟨hiv, hb, rfl⟩
  | k + 1, h => by
    obtain ⟨h1, h2, h3⟩ := deS_good F hF iv l hiv hb hl k (by omega)
    have hx : ((l.drop (8 * k)).take 8).length = 8 := by rw [List.length_take, List.length_drop]; omega
    obtain ⟨f1, f2⟩ := hF _ hx
    refine ⟨hx, (hl.drop _).take _, ?_⟩
    show ((deS F iv l k).2 ++ xorL _ _).length = _
    rw [List.length_append, h3, xorL_length _ _ (by rw [f1, h1]; exact Nat.le_refl _), f1]
    omega
def cbcL (key iv l : List Int) (dec : Bool) : List Int := if dec = true then (deS (fun b => tdeaL (key.take 8) (key.drop 8) b true) iv l (l.length / 8)).2 else chainL (fun b => tdeaL (key.take 8) (key.drop 8) b false) iv l
theorem blk_far8 {w : World} {g g' : Nat} {k : IntKind} {t : TypeId} {xs : List Int} (h : Blk w g k t xs) (hne : g ≠ g') (r0 r1 r2 r3 r4 r5 r6 r7 : Int) :
    Blk (((((((((w.setCell ⟨g', 0, none⟩ (.int .u8 r0)).setCell ⟨g', 1, none⟩ (.int .u8 r1)).setCell ⟨g', 2, none⟩ (.int .u8 r2)).setCell ⟨g', 3, none⟩ (.int .u8 r3)).setCell ⟨g', 4, none⟩ (.int .u8 r4)).setCell ⟨g', 5, none⟩ (.int .u8 r5)).setCell ⟨g', 6, none⟩ (.int .u8 r6)).setCell ⟨g', 7, none⟩ (.int .u8 r7))) g k t xs :=
  (((((((h.far (p := ⟨g', 0, none⟩) hne _).far (p := ⟨g', 1, none⟩) hne _).far (p := ⟨g', 2, none⟩) hne _).far (p := ⟨g', 3, none⟩) hne _).far (p := ⟨g', 4, none⟩) hne _).far (p := ⟨g', 5, none⟩) hne _).far (p := ⟨g', 6, none⟩) hne _).far (p := ⟨g', 7, none⟩) hne _
theorem blk_new_at1 (w : World) (B : Obj) (k : IntKind) (t : TypeId) (xs : List Int) : Blk ((w.alloc B).alloc (.cells (nums k xs).toArray t)) (w.heap.size + 1) k t xs := by
  have h := Blk.new (w.alloc B) k t xs
  rw [show (w.alloc B).heap.size = w.heap.size + 1 by simp] at h
  exact h
theorem blk8_new2 (w : World) (B : Obj) {w1 : World} (hb : Below ((w.alloc B).alloc (.cells #[.int .u8 0, .int .u8 0, .int .u8 0, .int .u8 0, .int .u8 0, .int .u8 0, .int .u8 0, .int .u8 0] 38)).heap.size ((w.alloc B).alloc (.cells #[.int .u8 0, .int .u8 0, .int .u8 0, .int .u8 0, .int .u8 0, .int .u8 0, .int .u8 0, .int .u8 0] 38)) w1) : Blk w1 (w.heap.size + 1) .u8 38 [0, 0, 0, 0, 0, 0, 0, 0] := by
  have h := blk8_new (w.alloc B) hb
  rw [show (w.alloc B).heap.size = w.heap.size + 1 by simp] at h
  exact h
theorem blk8_new3 (w : World) (B : Obj) {w1 : World} (hb : Below ((w.alloc (.cells #[.int .u8 0, .int .u8 0, .int .u8 0, .int .u8 0, .int .u8 0, .int .u8 0, .int .u8 0, .int .u8 0] 38)).alloc B).heap.size ((w.alloc (.cells #[.int .u8 0, .int .u8 0, .int .u8 0, .int .u8 0, .int .u8 0, .int .u8 0, .int .u8 0, .int .u8 0] 38)).alloc B) w1) : Blk w1 w.heap.size .u8 38 [0, 0, 0, 0, 0, 0, 0, 0] :=
  ((blk8_new w (Below.refl _ _)).alloc B).below hb
set_option maxHeartbeats 8000000 in
theorem impl_Cbc.callsE (A0 : Option Addr) (c0 : Nat) (l0 : List Int) (A1 : Option Addr) (c1 : Nat) (l1 : List Int) (A2 : Option Addr) (c2 : Nat) (l2 : List Int) (w : World) (hr0 : Kd.C (Kd.int .u8) w A0 l0.length l0) (hc0 : l0.length ≤ c0) (hr1 : Kd.C (Kd.int .u8) w A1 l1.length l1) (hc1 : l1.length ≤ c1) (hr2 : Kd.C (Kd.int .u8) w A2 l2.length l2) (hc2 : l2.length ≤ c2)
    (h0 : l0.length = 16) (hb0 : Bytes l0) (h1 : l1.length = 8) (hb1 : Bytes l1) (h2 : l2.length % 8 = 0) (h2m : l2.length ≤ 4096) (hb2 : Bytes l2) (ht : Tab w) :
    Calls Tryd.prog 30 #[.slice A0 l0.length c0, .slice A1 l1.length c1, .slice A2 l2.length c2, .bool false] w fun e w' => ∃ v0_ : Value, e = .returned (v0_) ∧ Kd.R (Kd.int .u8) 5 w' w.heap.size (fun _ => True) v0_ (cbcL l0 l1 l2 false) ∧ Below w.heap.size w w' := by
  rw [h0] at hr0 hc0 ⊢
  have HT := Aside0.mk ht
  have HR2 := Aside0.mk hr2
  have KP := Aside0.mk (impl_pairOf.calls A0 c0 l0 w hr0 hc0 h0)
  have KC := Aside0.mk (fun (w1 : World) (hC : Kd.C (Kd.int .u8) w1 A2 l2.length l2) (t1 : Tab w1) => impl_chain_pair.calls l0 l1 A2 c2 l2 w1 h0 hb0 h1 hb1 hC hc2 hb2 h2 (by omega) t1)
  have hE : cbcL l0 l1 l2 false = chainL (fun b => tdeaL (l0.take 8) (l0.drop 8) b false) l1 l2 := rfl
  obtain ⟨res, hres⟩ : ∃ r, r = cbcL l0 l1 l2 false := ⟨_, rfl⟩
  rw [← hE, ← hres] at KC
  rw [← hres]
  have b1 : (((l2.length : Int) % 8) != 0) = false := bne_eq_false_iff_eq.mpr (by omega)
  have b2 : decide ((l2.length : Int) > 4096) = false := decide_eq_false (by omega)
  clear hE hres hb0 hb1 hb2 ht hr0 hr2 h2 h2m
  obtain ⟨a0, a1, a2, a3, a4, a5, a6, a7, b0, b1, b2, b3, b4, b5, b6, b7, rfl⟩ := sixteen l0 h0
  obtain ⟨i0, i1, i2, i3, i4, i5, i6, i7, rfl⟩ := eight l1 h1
  obtain ⟨ad1, rfl, y0, y1, y2, y3, y4, y5, y6, y7⟩ := cells8 hr1
  have HR1 := Aside0.mk hr1
  clear hr1 h0 h1
  simp only [nums, List.map_cons, List.map_nil] at KC KP
  simp only [List.length_cons, List.length_nil, Nat.zero_add, Nat.reduceAdd] at hc1 ⊢
  have hmf : ∀ (fn : Fn) (first cap : Array Value) (w : World), (Instr.makeFunc fn first cap).run Tryd.prog w = .ok (.func fn first cap) w := fun _ _ _ _ => rfl
  have hta := fun (c : Nat) (w1 : World) => array_at (P := Tryd.prog) (t := 38) Tryd.underlying38 (Nat.le_refl 8) (some ad1) c w1
  go_enter Tryd.func30, Tryd.ntmps30
  go_upto_region 5 with (first
    | (go_at_call 37; go_must (refine KP.out.mono ?_; rintro e w1 ⟨rfl, hb1⟩; have HB1 := Aside0.mk hb1; have HP0 := Aside0.mk (show Blk (w1.alloc (.cells #[.int .u8 0, .int .u8 0, .int .u8 0, .int .u8 0, .int .u8 0, .int .u8 0, .int .u8 0, .int .u8 0, .int .u8 0, .int .u8 0, .int .u8 0, .int .u8 0, .int .u8 0, .int .u8 0, .int .u8 0, .int .u8 0] 41)) w1.heap.size .u8 41 (List.replicate 16 0) from blk_new w1 (.cells (nums .u8 (List.replicate 16 0)).toArray 41)); clear hb1))
    | (with_reducible refine wpList_store_blk rfl 41 (.tmp 9) (.tmp 34) rfl w1.heap.size rfl info41 (ys := [a0, a1, a2, a3, a4, a5, a6, a7, b0, b1, b2, b3, b4, b5, b6, b7]) rfl HP0.out (by simp) rfl ?_))
  have HP1 := Aside0.mk (HP0.out.setRow [a0, a1, a2, a3, a4, a5, a6, a7, b0, b1, b2, b3, b4, b5, b6, b7])
  have HB2 : Aside0 (Below w.heap.size w ((w1.alloc (.cells #[.int .u8 0, .int .u8 0, .int .u8 0, .int .u8 0, .int .u8 0, .int .u8 0, .int .u8 0, .int .u8 0, .int .u8 0, .int .u8 0, .int .u8 0, .int .u8 0, .int .u8 0, .int .u8 0, .int .u8 0, .int .u8 0] 41)).setRow w1.heap.size (nums .u8 [a0, a1, a2, a3, a4, a5, a6, a7, b0, b1, b2, b3, b4, b5, b6, b7]).toArray)) := ⟨below_setRow (HB1.out.alloc HB1.out.size _) HB1.out.size _⟩
  obtain ⟨W, hW⟩ : ∃ W, W = (w1.alloc (.cells #[.int .u8 0, .int .u8 0, .int .u8 0, .int .u8 0, .int .u8 0, .int .u8 0, .int .u8 0, .int .u8 0, .int .u8 0, .int .u8 0, .int .u8 0, .int .u8 0, .int .u8 0, .int .u8 0, .int .u8 0, .int .u8 0] 41)).setRow w1.heap.size (nums .u8 [a0, a1, a2, a3, a4, a5, a6, a7, b0, b1, b2, b3, b4, b5, b6, b7]).toArray := ⟨_, rfl⟩
  rw [← hW] at HP1 HB2 ⊢
  clear hW HP0
  obtain ⟨g9, hg9⟩ : ∃ g, g = w1.heap.size := ⟨_, rfl⟩
  rw [← hg9] at HP1 ⊢
  clear hg9 HB1
  obtain ⟨_, e1', y0', y1', y2', y3', y4', y5', y6', y7'⟩ := cells8 (Kd.C_below HR1.out HB2.out)
  cases e1'
  obtain ⟨x0, x1, x2, x3, x4, x5, x6, x7, x8, x9, x10, x11, x12, x13, x14, x15⟩ := blk_cells16 HP1.out
  clear y0 y1 y2 y3 y4 y5 y6 y7
  go_region_held3 (fun w' => w'.cell? ad1 = some (.int .u8 i0) ∧ w'.cell? ⟨ad1.block, ad1.off + 1, none⟩ = some (.int .u8 i1) ∧ w'.cell? ⟨ad1.block, ad1.off + 2, none⟩ = some (.int .u8 i2) ∧ w'.cell? ⟨ad1.block, ad1.off + 3, none⟩ = some (.int .u8 i3) ∧ w'.cell? ⟨ad1.block, ad1.off + 4, none⟩ = some (.int .u8 i4) ∧ w'.cell? ⟨ad1.block, ad1.off + 5, none⟩ = some (.int .u8 i5) ∧ w'.cell? ⟨ad1.block, ad1.off + 6, none⟩ = some (.int .u8 i6) ∧ w'.cell? ⟨ad1.block, ad1.off + 7, none⟩ = some (.int .u8 i7) ∧ w'.cell? ⟨g9, 0, none⟩ = some (.int .u8 a0) ∧ w'.cell? ⟨g9, 1, none⟩ = some (.int .u8 a1) ∧ w'.cell? ⟨g9, 2, none⟩ = some (.int .u8 a2) ∧ w'.cell? ⟨g9, 3, none⟩ = some (.int .u8 a3) ∧ w'.cell? ⟨g9, 4, none⟩ = some (.int .u8 a4) ∧ w'.cell? ⟨g9, 5, none⟩ = some (.int .u8 a5) ∧ w'.cell? ⟨g9, 6, none⟩ = some (.int .u8 a6) ∧ w'.cell? ⟨g9, 7, none⟩ = some (.int .u8 a7) ∧ w'.cell? ⟨g9, 8, none⟩ = some (.int .u8 b0) ∧ w'.cell? ⟨g9, 9, none⟩ = some (.int .u8 b1) ∧ w'.cell? ⟨g9, 10, none⟩ = some (.int .u8 b2) ∧ w'.cell? ⟨g9, 11, none⟩ = some (.int .u8 b3) ∧ w'.cell? ⟨g9, 12, none⟩ = some (.int .u8 b4) ∧ w'.cell? ⟨g9, 13, none⟩ = some (.int .u8 b5) ∧ w'.cell? ⟨g9, 14, none⟩ = some (.int .u8 b6) ∧ w'.cell? ⟨g9, 15, none⟩ = some (.int .u8 b7))
    (go_keep)
    (first
      | (go_at_call 39; go_must (refine (KC.out _ ?cc ?tt).mono ?_; (case cc => exact Kd.C_below HR2.out (below_drew1 HB2.out)); (case tt => exact HT.out.below (below_drew1 HB2.out)); rintro e w5 ⟨v5, rfl, hR5, hb5⟩; have HR5 := Aside0.mk (Kd.R_lower hR5 HB2.out.size); have HB5 := Aside0.mk (below_then HB2.out HB2.out.size (below_then (below_drew1 (Below.refl _ _)) (Nat.le_refl _) hb5)); have hq := below_then (below_drew1 (Below.refl W.heap.size W)) (Nat.le_refl _) hb5; clear hR5 hb5; obtain ⟨_, e5', z0, z1, z2, z3, z4, z5, z6, z7⟩ := cells8 (Kd.C_below HR1.out HB5.out); cases e5'; obtain ⟨x0_5, x1_5, x2_5, x3_5, x4_5, x5_5, x6_5, x7_5, x8_5, x9_5, x10_5, x11_5, x12_5, x13_5, x14_5, x15_5⟩ := blk_cells16 (HP1.out.below hq); clear hq)))
  all_goals go_wp2
  all_goals go_ret
  all_goals exact ⟨_, rfl, HR5.out, HB5.out⟩
theorem cellsN {w : World} {A : Option Addr} {xs t : List Int} {d0 d1 d2 d3 d4 d5 d6 d7 : Int} (h : Kd.C (Kd.int .u8) w A xs.length xs) (hx : xs = d0 :: d1 :: d2 :: d3 :: d4 :: d5 :: d6 :: d7 :: t) :
    ∃ ad : Addr, A = some ad ∧ w.cell? ad = some (.int .u8 d0) ∧ w.cell? ⟨ad.block, ad.off + 1, none⟩ = some (.int .u8 d1) ∧ w.cell? ⟨ad.block, ad.off + 2, none⟩ = some (.int .u8 d2) ∧ w.cell? ⟨ad.block, ad.off + 3, none⟩ = some (.int .u8 d3) ∧ w.cell? ⟨ad.block, ad.off + 4, none⟩ = some (.int .u8 d4) ∧ w.cell? ⟨ad.block, ad.off + 5, none⟩ = some (.int .u8 d5) ∧ w.cell? ⟨ad.block, ad.off + 6, none⟩ = some (.int .u8 d6) ∧ w.cell? ⟨ad.block, ad.off + 7, none⟩ = some (.int .u8 d7) := by
  obtain ⟨ad, rfl, hc⟩ := C_cells h (by rw [hx]; simp)
  subst hx
  exact ⟨ad, rfl, hc 0 _ rfl, hc 1 _ rfl, hc 2 _ rfl, hc 3 _ rfl, hc 4 _ rfl, hc 5 _ rfl, hc 6 _ rfl, hc 7 _ rfl⟩
set_option maxHeartbeats 16000000 in
theorem impl_Cbc.callsD (A0 : Option Addr) (c0 : Nat) (l0 : List Int) (A1 : Option Addr) (c1 : Nat) (l1 : List Int) (A2 : Option Addr) (c2 : Nat) (l : List Int) (w : World) (hr0 : Kd.C (Kd.int .u8) w A0 l0.length l0) (hc0 : l0.length ≤ c0) (hr1 : Kd.C (Kd.int .u8) w A1 l1.length l1) (hc1 : l1.length ≤ c1) (hr2 : Kd.C (Kd.int .u8) w A2 l.length l) (hc2 : l.length ≤ c2)
    (h0 : l0.length = 16) (hb0 : Bytes l0) (h1 : l1.length = 8) (hb1 : Bytes l1) (h2 : l.length % 8 = 0) (h2m : l.length ≤ 4096) (hb2 : Bytes l) (ht : Tab w) :
    Calls Tryd.prog 30 #[.slice A0 l0.length c0, .slice A1 l1.length c1, .slice A2 l.length c2, .bool true] w fun e w' => ∃ v0_ : Value, e = .returned (v0_) ∧ Kd.R (Kd.int .u8) 5 w' w.heap.size (fun _ => True) v0_ (cbcL l0 l1 l true) ∧ Below w.heap.size w w' := by
  rw [h0] at hr0 hc0 ⊢
  have HT := Aside0.mk ht
  have HR2 := Aside0.mk hr2
  have KP := Aside0.mk (impl_pairOf.calls A0 c0 l0 w hr0 hc0 h0)
  have KF := Aside0.mk (fun (b : List Int) (h8 : b.length = 8) (hb : Bytes b) (w1 : World) (t1 : Tab w1) => impl_pair_block.calls (l0.take 8) (l0.drop 8) b true w1 (by rw [List.length_take]; omega) (hb0.take 8) (by rw [List.length_drop]; omega) (hb0.drop 8) h8 hb t1)
  rw [List.take_append_drop] at KF
  obtain ⟨FF, hFF⟩ : ∃ F : List Int → List Int, F = fun b => tdeaL (l0.take 8) (l0.drop 8) b true := ⟨_, rfl⟩
  have HFF : Aside0 (∀ b, FF b = tdeaL (l0.take 8) (l0.drop 8) b true) := ⟨fun b => by rw [hFF]⟩
  have HF : Aside0 (∀ b, b.length = 8 → (FF b).length = 8 ∧ Bytes (FF b)) := ⟨fun b h => by rw [hFF]; exact ⟨tdeaL_length _ _ _ _ h, tdeaL_bytes _ _ _ _ h⟩⟩
  have HG := Aside0.mk (deS_good FF HF.out l1 l h1 hb1 hb2)
  have HE : Aside0 (cbcL l0 l1 l true = (deS FF l1 l (l.length / 8)).2) := ⟨by rw [hFF]; rfl⟩
  have HLB := Aside0.mk hb2
  have H8 := Aside0.mk h2
  have HM := Aside0.mk h2m
  have b1 : (((l.length : Int) % 8) != 0) = false := bne_eq_false_iff_eq.mpr (by omega)
  have b2 : decide ((l.length : Int) > 4096) = false := decide_eq_false (by omega)
  clear hFF hb0 hb1 hb2 ht hr0 hr2 h2 h2m
  obtain ⟨a0, a1, a2, a3, a4, a5, a6, a7, b0, b1, b2, b3, b4, b5, b6, b7, rfl⟩ := sixteen l0 h0
  have HD0 : Aside0 (deS FF l1 l 0 = (l1, [])) := ⟨rfl⟩
  obtain ⟨iv, hiv⟩ : ∃ iv, iv = l1 := ⟨_, rfl⟩
  rw [← hiv] at HG HE HD0
  have HIV := Aside0.mk hiv
  clear hiv
  obtain ⟨i0, i1, i2, i3, i4, i5, i6, i7, rfl⟩ := eight l1 h1
  obtain ⟨ad1, rfl, y0, y1, y2, y3, y4, y5, y6, y7⟩ := cells8 hr1
  have HR1 := Aside0.mk hr1
  clear hr1 h0 h1
  simp only [nums, List.map_cons, List.map_nil] at KP
  simp only [List.length_cons, List.length_nil, Nat.zero_add, Nat.reduceAdd] at hc1 ⊢
  have hta := fun (c : Nat) (w1 : World) => array_at (P := Tryd.prog) (t := 38) Tryd.underlying38 (Nat.le_refl 8) (some ad1) c w1
  go_enter Tryd.func30, Tryd.ntmps30
  go_upto_region 6 with (first
    | (go_at_call 37; go_must (refine KP.out.mono ?_; rintro e w1 ⟨rfl, hb1⟩; have HB1 := Aside0.mk hb1; have HP0 := Aside0.mk (show Blk (w1.alloc (.cells #[.int .u8 0, .int .u8 0, .int .u8 0, .int .u8 0, .int .u8 0, .int .u8 0, .int .u8 0, .int .u8 0, .int .u8 0, .int .u8 0, .int .u8 0, .int .u8 0, .int .u8 0, .int .u8 0, .int .u8 0, .int .u8 0] 41)) w1.heap.size .u8 41 (List.replicate 16 0) from blk_new w1 (.cells (nums .u8 (List.replicate 16 0)).toArray 41)); clear hb1))
    | (with_reducible refine wpList_store_blk rfl 41 (.tmp 9) (.tmp 34) rfl w1.heap.size rfl info41 (ys := [a0, a1, a2, a3, a4, a5, a6, a7, b0, b1, b2, b3, b4, b5, b6, b7]) rfl HP0.out (by simp) rfl ?_))
  have HP1 := Aside0.mk (HP0.out.setRow [a0, a1, a2, a3, a4, a5, a6, a7, b0, b1, b2, b3, b4, b5, b6, b7])
  have HB2 : Aside0 (Below w.heap.size w ((w1.alloc (.cells #[.int .u8 0, .int .u8 0, .int .u8 0, .int .u8 0, .int .u8 0, .int .u8 0, .int .u8 0, .int .u8 0, .int .u8 0, .int .u8 0, .int .u8 0, .int .u8 0, .int .u8 0, .int .u8 0, .int .u8 0, .int .u8 0] 41)).setRow w1.heap.size (nums .u8 [a0, a1, a2, a3, a4, a5, a6, a7, b0, b1, b2, b3, b4, b5, b6, b7]).toArray)) := ⟨below_setRow (HB1.out.alloc HB1.out.size _) HB1.out.size _⟩
  have hsz : ((w1.alloc (.cells #[.int .u8 0, .int .u8 0, .int .u8 0, .int .u8 0, .int .u8 0, .int .u8 0, .int .u8 0, .int .u8 0, .int .u8 0, .int .u8 0, .int .u8 0, .int .u8 0, .int .u8 0, .int .u8 0, .int .u8 0, .int .u8 0] 41)).setRow w1.heap.size (nums .u8 [a0, a1, a2, a3, a4, a5, a6, a7, b0, b1, b2, b3, b4, b5, b6, b7]).toArray).heap.size = w1.heap.size + 1 := by simp
  obtain ⟨W, hW⟩ : ∃ W, W = (w1.alloc (.cells #[.int .u8 0, .int .u8 0, .int .u8 0, .int .u8 0, .int .u8 0, .int .u8 0, .int .u8 0, .int .u8 0, .int .u8 0, .int .u8 0, .int .u8 0, .int .u8 0, .int .u8 0, .int .u8 0, .int .u8 0, .int .u8 0] 41)).setRow w1.heap.size (nums .u8 [a0, a1, a2, a3, a4, a5, a6, a7, b0, b1, b2, b3, b4, b5, b6, b7]).toArray := ⟨_, rfl⟩
  rw [← hW] at HP1 HB2 hsz ⊢
  clear hW HP0
  obtain ⟨g9, hg9⟩ : ∃ g, g = w1.heap.size := ⟨_, rfl⟩
  rw [← hg9] at HP1 hsz ⊢
  clear hg9 HB1
  obtain ⟨_, e1', y0', y1', y2', y3', y4', y5', y6', y7'⟩ := cells8 (Kd.C_below HR1.out HB2.out)
  cases e1'
  clear y0 y1 y2 y3 y4 y5 y6 y7
  obtain ⟨_, e2', yy0, yy1, yy2, yy3, yy4, yy5, yy6, yy7⟩ := cells8 (Kd.C_alloc (Kd.C_below HR1.out HB2.out) (.cells #[] 5))
  cases e2'
  have hE0 : Kd.R (Kd.int .u8) 5 (W.alloc (.cells #[] 5)) w.heap.size (fun _ => True) (.slice (some ⟨W.heap.size, 0, none⟩) 0 0) [] := Kd.R_lower (empty_R W _ rfl) HB2.out.size
  have hB0 : Blk ((W.alloc (.cells #[] 5)).alloc (.cells #[.int .u8 i0, .int .u8 i1, .int .u8 i2, .int .u8 i3, .int .u8 i4, .int .u8 i5, .int .u8 i6, .int .u8 i7] 38)) (W.heap.size + 1) .u8 38 [i0, i1, i2, i3, i4, i5, i6, i7] := by
    have h_ := blk_of8 (W.alloc (.cells #[] 5)) i0 i1 i2 i3 i4 i5 i6 i7
    rw [show (W.alloc (.cells #[] 5)).heap.size = W.heap.size + 1 by simp] at h_
    exact h_
  have hP0 := (HP1.out.alloc (.cells #[] 5)).alloc (.cells #[.int .u8 i0, .int .u8 i1, .int .u8 i2, .int .u8 i3, .int .u8 i4, .int .u8 i5, .int .u8 i6, .int .u8 i7] 38)
  have hW0 : Below w.heap.size w ((W.alloc (.cells #[] 5)).alloc (.cells #[.int .u8 i0, .int .u8 i1, .int .u8 i2, .int .u8 i3, .int .u8 i4, .int .u8 i5, .int .u8 i6, .int .u8 i7] 38)) := (HB2.out.alloc HB2.out.size _).alloc (by have := HB2.out.size; simp; omega) _
  have hne : g9 ≠ W.heap.size + 1 := by omega
  rw [hsz] at hE0 hB0 hne
  have HE0 := Aside0.mk (Kd.R_alloc hE0 (.cells #[.int .u8 i0, .int .u8 i1, .int .u8 i2, .int .u8 i3, .int .u8 i4, .int .u8 i5, .int .u8 i6, .int .u8 i7] 38))
  have HBB := Aside0.mk hB0
  have HPP := Aside0.mk hP0
  have HWW := Aside0.mk hW0
  have HNE := Aside0.mk hne
  have hsw := HB2.out.size
  rw [hsz] at hsw
  have HSW := Aside0.mk hsw
  clear hE0 hB0 hP0 hW0 hne hsw
  go_wp2_with fail
  obtain ⟨gB, hgB⟩ : ∃ g, g = g9 + 1 + 1 := ⟨_, rfl⟩
  rw [← hgB] at HBB HNE ⊢
  have HGB : Aside0 (w.heap.size ≤ gB) := ⟨by have := HSW.out; omega⟩
  clear hgB
  go_loopw [2, 10] (fun v2 v10 wr => ∃ k : Nat, 8 * k ≤ l.length ∧ (∃ (A : Option Addr) (c : Nat), v2 = .slice A (l.drop (8 * k)).length c ∧ Aside0 ((l.drop (8 * k)).length ≤ c ∧ Kd.C (Kd.int .u8) w A (l.drop (8 * k)).length (l.drop (8 * k)))) ∧ (∃ (Ao : Option Addr) (co : Nat), v10 = .slice Ao (8 * k) co ∧ Aside0 (Kd.R (Kd.int .u8) 5 wr w.heap.size (fun _ => True) (.slice Ao (8 * k) co) (deS FF iv l k).2)) ∧ Aside0 (Blk wr gB .u8 38 (deS FF iv l k).1) ∧ Aside0 (Blk wr g9 .u8 41 [a0, a1, a2, a3, a4, a5, a6, a7, b0, b1, b2, b3, b4, b5, b6, b7]) ∧ Aside0 (Below w.heap.size w wr))
    (fun v2 _ _ => sliceLen v2)
  case atStart =>
    refine ⟨0, by omega, ⟨A2, c2, by simp, ⟨by simpa using hc2, by simpa using HR2.out⟩⟩, ⟨_, _, rfl, ⟨?_⟩⟩, ⟨?_⟩, HPP, HWW⟩
    · rw [HD0.out]; exact HE0.out
    · rw [HD0.out, HIV.out]; exact HBB.out
  case round =>
    obtain ⟨k, hk, ⟨A, c, rfl, HA⟩, ⟨Ao, co, rfl, HO⟩, HI, HP, HB⟩ := hrel
    clear HE0 HBB HPP HWW HP1 HB2 hsz y0' y1' y2' y3' y4' y5' y6' y7' yy0 yy1 yy2 yy3 yy4 yy5 yy6 yy7 hta
    by_cases hlt : 8 * k < l.length
    · have hdl : (l.drop (8 * k)).length = l.length - 8 * k := List.length_drop
      have h8' := H8.out
      obtain ⟨g1, g2, g3⟩ := HG.out k hk
      have hnx1 : (deS FF iv l (k + 1)).1 = (l.drop (8 * k)).take 8 := rfl
      have hnx2 : (deS FF iv l (k + 1)).2 = (deS FF iv l k).2 ++ xorL (FF ((l.drop (8 * k)).take 8)) (deS FF iv l k).1 := rfl
      have hnd : l.drop (8 * (k + 1)) = (l.drop (8 * k)).drop 8 := by rw [List.drop_drop, Nat.mul_succ]
      have hxb : Bytes (l.drop (8 * k)) := HLB.out.drop _
      obtain ⟨xs, hxs⟩ : ∃ xs, xs = l.drop (8 * k) := ⟨_, rfl⟩
      rw [← hxs] at HA hdl hnx1 hnx2 hnd hxb ⊢
      obtain ⟨d0, d1, d2, d3, d4, d5, d6, d7, t, hex⟩ := list8 (l := xs) (by omega)
      have HEX := Aside0.mk hex
      have hdt : xs.take 8 = [d0, d1, d2, d3, d4, d5, d6, d7] := by rw [hex]; rfl
      have hdb : Bytes [d0, d1, d2, d3, d4, d5, d6, d7] := hdt ▸ hxb.take 8
      rw [hdt] at hnx1 hnx2
      obtain ⟨cur, hcur⟩ : ∃ cur, cur = (deS FF iv l k).1 := ⟨_, rfl⟩
      rw [← hcur] at HI g1 g2 hnx2
      obtain ⟨out, hout⟩ : ∃ out, out = (deS FF iv l k).2 := ⟨_, rfl⟩
      rw [← hout] at HO g3 hnx2
      obtain ⟨f1, f2⟩ := HF.out [d0, d1, d2, d3, d4, d5, d6, d7] rfl
      have KFk := Aside0.mk (KF.out [d0, d1, d2, d3, d4, d5, d6, d7] rfl hdb)
      rw [← HFF.out] at KFk
      obtain ⟨ee, hee⟩ : ∃ e, e = FF [d0, d1, d2, d3, d4, d5, d6, d7] := ⟨_, rfl⟩
      rw [← hee] at hnx2 f1 f2 KFk
      have hx8 : (xorL ee cur).length = 8 := by rw [xorL_length _ _ (by rw [f1, g1]; exact Nat.le_refl _), f1]
      have KX := Aside0.mk (fun (g c : Nat) (w1 : World) (h : Blk w1 g .u8 38 (ee ++ cur)) => xor8_two ee cur f1 f2 g1 g c 38 w1 h)
      obtain ⟨nx, hnx⟩ : ∃ nx, nx = xorL ee cur := ⟨_, rfl⟩
      rw [← hnx] at hnx2 hx8 KX
      clear hnx g2 f2 hdb hxb hcur hout hee
      obtain ⟨c0, c1, c2, c3, c4, c5, c6, c7, rfl⟩ := eight cur g1
      obtain ⟨e0, e1, e2, e3, e4, e5, e6, e7, rfl⟩ := eight ee f1
      obtain ⟨r0, r1, r2, r3, r4, r5, r6, r7, rfl⟩ := eight nx hx8
      have HN := Aside0.mk (And.intro hnx1 (And.intro hnx2 (And.intro hnd (And.intro hdl (And.intro g3 hex)))))
      clear hnx1 hnx2 hnd g1 f1 hx8 g3
      obtain ⟨ad, hAd, y0, y1, y2, y3, y4, y5, y6, y7⟩ := cellsN (Kd.C_below HA.out.2 HB.out) hex
      subst hAd
      have na := World.new_ne wr ad y0
      obtain ⟨⟨z0, z1, z2, z3, z4, z5, z6, z7⟩, f0, f1, f2, f3, f4, f5, f6, f7⟩ := blk8 HI.out
      obtain ⟨x0, x1, x2, x3, x4, x5, x6, x7, x8, x9, x10, x11, x12, x13, x14, x15⟩ := blk_cells16 HP.out
      have nb := World.new_ne wr _ x0
      have nc := World.new_ne wr _ z0
      clear hex
      simp only [nums, List.map_cons, List.map_nil, List.cons_append, List.nil_append] at KFk KX
      have hta := fun (w1 : World) => array_at (P := Tryd.prog) (t := 38) Tryd.underlying38 (show 8 ≤ xs.length by omega) (some ad) c w1
      obtain ⟨i0_, hi0_, _, hsz_, _⟩ := info_parts info5
      obtain ⟨A', hcut, hA', hC'⟩ := print_drop_of (P := Tryd.prog) (Value.int .u8) 0 22 5 .i64 Tryd.underlying22 hi0_ hsz_ (some ad) c xs 8 (by omega) (by omega) HA.out.1
      have HA2 : Aside0 (Kd.C (Kd.int .u8) w A' (xs.drop (8 : Int).toNat).length (xs.drop (8 : Int).toNat)) := ⟨Kd.C_of_reads (h1 := fun _ => rfl) (hA' _ (Kd.reads_of_C HA.out.2))⟩
      have HC2 := Aside0.mk hC'
      have q0 : decide ((0 : Int) < (xs.length : Int)) = true := decide_eq_true (by omega)
      have HXS := Aside0.mk hxs
      have q1 : 0 < xs.length := by omega
      have q2 : ¬ xs = [] := by intro h; rw [h] at q1; exact Nat.lt_irrefl 0 q1
      clear hA' hC' hi0_ hsz_ hdl hdt h8' hxs
      go_upto_region 10 with fail
      go_cut [2, 10, 12] from 48 to 66 (fun s2 s10 s12 wc => s2 = .slice (some ad) xs.length c ∧ s10 = .slice Ao (8 * k) co ∧ (∃ g12 : Nat, s12 = .pointer (some ⟨g12, 0, none⟩) ∧ Aside0 (wr.heap.size ≤ g12 ∧ Blk wc g12 .u8 38 [r0, r1, r2, r3, r4, r5, r6, r7])) ∧ Aside0 (Below wr.heap.size wr wc))
      case first =>
        go_region_held3 (fun w' => w'.cell? ad = some (.int .u8 d0) ∧ w'.cell? ⟨ad.block, ad.off + 1, none⟩ = some (.int .u8 d1) ∧ w'.cell? ⟨ad.block, ad.off + 2, none⟩ = some (.int .u8 d2) ∧ w'.cell? ⟨ad.block, ad.off + 3, none⟩ = some (.int .u8 d3) ∧ w'.cell? ⟨ad.block, ad.off + 4, none⟩ = some (.int .u8 d4) ∧ w'.cell? ⟨ad.block, ad.off + 5, none⟩ = some (.int .u8 d5) ∧ w'.cell? ⟨ad.block, ad.off + 6, none⟩ = some (.int .u8 d6) ∧ w'.cell? ⟨ad.block, ad.off + 7, none⟩ = some (.int .u8 d7) ∧ w'.cell? ⟨g9, 0, none⟩ = some (.int .u8 a0) ∧ w'.cell? ⟨g9, 1, none⟩ = some (.int .u8 a1) ∧ w'.cell? ⟨g9, 2, none⟩ = some (.int .u8 a2) ∧ w'.cell? ⟨g9, 3, none⟩ = some (.int .u8 a3) ∧ w'.cell? ⟨g9, 4, none⟩ = some (.int .u8 a4) ∧ w'.cell? ⟨g9, 5, none⟩ = some (.int .u8 a5) ∧ w'.cell? ⟨g9, 6, none⟩ = some (.int .u8 a6) ∧ w'.cell? ⟨g9, 7, none⟩ = some (.int .u8 a7) ∧ w'.cell? ⟨g9, 8, none⟩ = some (.int .u8 b0) ∧ w'.cell? ⟨g9, 9, none⟩ = some (.int .u8 b1) ∧ w'.cell? ⟨g9, 10, none⟩ = some (.int .u8 b2) ∧ w'.cell? ⟨g9, 11, none⟩ = some (.int .u8 b3) ∧ w'.cell? ⟨g9, 12, none⟩ = some (.int .u8 b4) ∧ w'.cell? ⟨g9, 13, none⟩ = some (.int .u8 b5) ∧ w'.cell? ⟨g9, 14, none⟩ = some (.int .u8 b6) ∧ w'.cell? ⟨g9, 15, none⟩ = some (.int .u8 b7) ∧ w'.cell? ⟨gB, 0, none⟩ = some (.int .u8 c0) ∧ w'.cell? ⟨gB, 1, none⟩ = some (.int .u8 c1) ∧ w'.cell? ⟨gB, 2, none⟩ = some (.int .u8 c2) ∧ w'.cell? ⟨gB, 3, none⟩ = some (.int .u8 c3) ∧ w'.cell? ⟨gB, 4, none⟩ = some (.int .u8 c4) ∧ w'.cell? ⟨gB, 5, none⟩ = some (.int .u8 c5) ∧ w'.cell? ⟨gB, 6, none⟩ = some (.int .u8 c6) ∧ w'.cell? ⟨gB, 7, none⟩ = some (.int .u8 c7))
          (go_keep)
          (first
            | (go_at_call 38; go_must (refine (KFk.out _ ?tt).mono ?_; (case tt => exact HT.out.below (by repeat (first | exact HB.out | apply below_drew1 | apply below_alloc))); rintro e w1 ⟨rfl, hb1⟩; (first | (have HZ := Aside0.mk (blk8_new wr (below_then (below_drew1 (Below.refl _ _)) (Nat.le_refl _) hb1)); have Q1 := Aside0.mk (below_then (below_drew1 (below_alloc (Below.refl wr.heap.size wr) (.cells #[.int .u8 0, .int .u8 0, .int .u8 0, .int .u8 0, .int .u8 0, .int .u8 0, .int .u8 0, .int .u8 0] 38))) (by simp) hb1); clear hb1) | (have Q1 := Aside0.mk (below_then (below_drew1 (Below.refl wr.heap.size wr)) (Nat.le_refl _) hb1); clear hb1)); obtain ⟨_, ed1, y0_1, y1_1, y2_1, y3_1, y4_1, y5_1, y6_1, y7_1⟩ := cellsN (Kd.C_below (Kd.C_below HA.out.2 HB.out) Q1.out) HEX.out; cases ed1; obtain ⟨x0_1, x1_1, x2_1, x3_1, x4_1, x5_1, x6_1, x7_1, x8_1, x9_1, x10_1, x11_1, x12_1, x13_1, x14_1, x15_1⟩ := blk_cells16 (HP.out.below Q1.out); obtain ⟨⟨z0_1, z1_1, z2_1, z3_1, z4_1, z5_1, z6_1, z7_1⟩, f0_1, f1_1, f2_1, f3_1, f4_1, f5_1, f6_1, f7_1⟩ := blk8 (HI.out.below Q1.out); have na1 := World.new_ne w1 _ y0_1; have nb1 := World.new_ne w1 _ x0_1; have nc1 := World.new_ne w1 _ z0_1; have ng1 : w1.heap.size + 1 ≠ ad.block := (by have := World.block_lt_of_cell? w1 _ y0_1; omega); have ng2 : w1.heap.size + 1 ≠ g9 := (by have := World.block_lt_of_cell? w1 _ x0_1; dsimp only at this; omega); have ng3 : w1.heap.size + 1 ≠ gB := (by have := World.block_lt_of_cell? w1 _ z0_1; dsimp only at this; omega)))
            | (go_at_call 55; go_must (refine (KX.out _ _ _ ?bb).mono ?_; (case bb => first | exact (show Blk _ _ _ _ _ from blk_new _ (.cells (nums .u8 [e0, e1, e2, e3, e4, e5, e6, e7, c0, c1, c2, c3, c4, c5, c6, c7]).toArray 38)) | exact (blk_new_then _ .u8 38 [e0, e1, e2, e3, e4, e5, e6, e7, c0, c1, c2, c3, c4, c5, c6, c7] _) | exact (blk_new_at1 _ _ .u8 38 [e0, e1, e2, e3, e4, e5, e6, e7, c0, c1, c2, c3, c4, c5, c6, c7])); rintro e w2 ⟨rfl, hb2⟩; (first | (have HZ2 := Aside0.mk ((HZ.out.alloc (.cells #[.int .u8 e0, .int .u8 e1, .int .u8 e2, .int .u8 e3, .int .u8 e4, .int .u8 e5, .int .u8 e6, .int .u8 e7, .int .u8 c0, .int .u8 c1, .int .u8 c2, .int .u8 c3, .int .u8 c4, .int .u8 c5, .int .u8 c6, .int .u8 c7] 38)).below hb2); have HZ3 := HZ2) | (have HZ2 := Aside0.mk (blk8_new3 w1 (.cells #[.int .u8 e0, .int .u8 e1, .int .u8 e2, .int .u8 e3, .int .u8 e4, .int .u8 e5, .int .u8 e6, .int .u8 e7, .int .u8 c0, .int .u8 c1, .int .u8 c2, .int .u8 c3, .int .u8 c4, .int .u8 c5, .int .u8 c6, .int .u8 c7] 38) hb2); have HZ4 := HZ2) | (have HZ2 := Aside0.mk (blk8_new2 w1 (.cells #[.int .u8 e0, .int .u8 e1, .int .u8 e2, .int .u8 e3, .int .u8 e4, .int .u8 e5, .int .u8 e6, .int .u8 e7, .int .u8 c0, .int .u8 c1, .int .u8 c2, .int .u8 c3, .int .u8 c4, .int .u8 c5, .int .u8 c6, .int .u8 c7] 38) hb2); have HZ5 := HZ2) | (have HZ2 := Aside0.mk (blk8_new w2 (Below.refl _ _)))); have Q2 := Aside0.mk (below_then (by repeat (first | exact Q1.out | apply below_alloc)) (by have := Q1.out.size; simp; omega) hb2); clear hb2; have hz := blk8 HZ2.out; obtain ⟨⟨p0, p1, p2, p3, p4, p5, p6, p7⟩, o0, o1, o2, o3, o4, o5, o6, o7⟩ := hz; obtain ⟨_, ed2, y0_2, y1_2, y2_2, y3_2, y4_2, y5_2, y6_2, y7_2⟩ := cellsN (Kd.C_below (Kd.C_below HA.out.2 HB.out) Q2.out) HEX.out; cases ed2; obtain ⟨x0_2, x1_2, x2_2, x3_2, x4_2, x5_2, x6_2, x7_2, x8_2, x9_2, x10_2, x11_2, x12_2, x13_2, x14_2, x15_2⟩ := blk_cells16 (HP.out.below Q2.out); obtain ⟨⟨z0_2, z1_2, z2_2, z3_2, z4_2, z5_2, z6_2, z7_2⟩, f0_2, f1_2, f2_2, f3_2, f4_2, f5_2, f6_2, f7_2⟩ := blk8 (HI.out.below Q2.out); have na2 := World.new_ne w2 _ y0_2; have nb2 := World.new_ne w2 _ x0_2; have nc2 := World.new_ne w2 _ z0_2)))
        all_goals go_wp2
        all_goals go_meet
        all_goals (case rel =>
          refine ⟨rfl, rfl, ⟨_, rfl, ?_⟩, ?_⟩
          · first | with_reducible exact ⟨⟨Nat.le_refl _, blk_set8 HZ3.out _ _ _ _ _ _ _ _⟩⟩ | with_reducible exact ⟨⟨Q1.out.size, blk_set8 HZ4.out _ _ _ _ _ _ _ _⟩⟩ | with_reducible exact ⟨⟨Nat.le_succ_of_le Q1.out.size, blk_set8 HZ5.out _ _ _ _ _ _ _ _⟩⟩ | with_reducible exact ⟨⟨Q2.out.size, blk_of8 w2 _ _ _ _ _ _ _ _⟩⟩
          · first | with_reducible exact ⟨below_set8 Q2.out (Nat.le_refl _) _ _ _ _ _ _ _ _⟩ | with_reducible exact ⟨below_set8 Q2.out Q1.out.size _ _ _ _ _ _ _ _⟩ | with_reducible exact ⟨below_set8 Q2.out (Nat.le_succ_of_le Q1.out.size) _ _ _ _ _ _ _ _⟩ | with_reducible exact ⟨Q2.out.alloc Q2.out.size _⟩)
      case rest =>
        obtain ⟨rfl, rfl, ⟨g12, rfl, C1⟩, C2⟩ := hcut
        have HSZ : Aside0 (8 * k + 8 ≤ 65536) := ⟨by have := HM.out; omega⟩
        have CI := Aside0.mk (HI.out.below C2.out)
        have CP := Aside0.mk (HP.out.below C2.out)
        have CO := Aside0.mk (Kd.R_below HO.out C2.out)
        have CB := Aside0.mk (below_step HB.out C2.out)
        have hlt1 := HI.out.lt
        have hn12 : g12 ≠ gB := by have := C1.out.1; omega
        have HN12 := Aside0.mk hn12
        clear x0 x1 x2 x3 x4 x5 x6 x7 x8 x9 x10 x11 x12 x13 x14 x15 f0 f1 f2 f3 f4 f5 f6 f7 y0 y1 y2 y3 y4 y5 y6 y7 z0 z1 z2 z3 z4 z5 z6 z7 na nb nc hlt1 hn12
        obtain ⟨_, e9, y0, y1, y2, y3, y4, y5, y6, y7⟩ := cellsN (Kd.C_below HA.out.2 CB.out) HEX.out
        cases e9
        obtain ⟨⟨z0, z1, z2, z3, z4, z5, z6, z7⟩, f0, f1, f2, f3, f4, f5, f6, f7⟩ := blk8 CI.out
        go_upto_region 12 with fail
        have DI := Aside0.mk (blk_set8n CI.out d0 d1 d2 d3 d4 d5 d6 d7)
        have DP := Aside0.mk (blk_far8 CP.out HNE.out d0 d1 d2 d3 d4 d5 d6 d7)
        have D12 := Aside0.mk (blk_far8 C1.out.2 HN12.out d0 d1 d2 d3 d4 d5 d6 d7)
        have DO := Aside0.mk (R_set8 CO.out CI.out d0 d1 d2 d3 d4 d5 d6 d7)
        have DB := Aside0.mk (below_set8 CB.out HGB.out (.int .u8 d0) (.int .u8 d1) (.int .u8 d2) (.int .u8 d3) (.int .u8 d4) (.int .u8 d5) (.int .u8 d6) (.int .u8 d7))
        obtain ⟨V, hV⟩ : ∃ V, V = ((((((((wc.setCell ⟨gB, 0, none⟩ (.int .u8 d0)).setCell ⟨gB, 1, none⟩ (.int .u8 d1)).setCell ⟨gB, 2, none⟩ (.int .u8 d2)).setCell ⟨gB, 3, none⟩ (.int .u8 d3)).setCell ⟨gB, 4, none⟩ (.int .u8 d4)).setCell ⟨gB, 5, none⟩ (.int .u8 d5)).setCell ⟨gB, 6, none⟩ (.int .u8 d6)).setCell ⟨gB, 7, none⟩ (.int .u8 d7)) := ⟨_, rfl⟩
        rw [← hV] at DI DP D12 DO DB ⊢
        clear hV y0 y1 y2 y3 y4 y5 y6 y7 z0 z1 z2 z3 z4 z5 z6 z7 f0 f1 f2 f3 f4 f5 f6 f7 hta
        go_wp2_with (first | ((with_reducible refine gate_builtin (b := .append) (xs := #[.tmp 64, .tmp 65]) rfl ?_); at_builtin; go_must (refine Kd.R_append_rows (Kd.int .u8) (w0 := w) w.heap.size rfl (.tmp 64) (.tmp 65) 22 5 (.int .u8 0) 1 rfl Tryd.underlying22 info5 rfl (by decide) (by omega) (.slice Ao (8 * k) co) out [r0, r1, r2, r3, r4, r5, r6, r7] _ _ _ (fun _ => True) (fun _ => False) rfl rfl ?aO ?aR (fun _ _ h => h) (fun _ h => h.elim) ?aF ?aB ?aS ?aL ?_; (case aO => exact DO.out); (case aR => exact (Kd.R_reads' (D12.out.R (n := 8) (Nat.le_refl _) rfl (by omega))).2.2); (case aF => intro k hk; trivial); (case aB => exact DB.out); (case aS => exact DB.out.size); (case aL => rw [HN.out.2.2.2.2.1]; have := HSZ.out; omega); intro v1 w3 ho hb hg hat; have HV := Aside0.mk ho; have HW := Aside0.mk hb; have HI3 := Aside0.mk (DI.out.grown hg (Kd.R_ne DO.out DI.out (by decide))); have HP3 := Aside0.mk (DP.out.grown hg (Kd.R_ne DO.out DP.out (by decide))); clear ho hb hg hat)))
        go_roundw
        case rel =>
          obtain ⟨n1, n2, n3, n4, n5, n6⟩ := HN.out
          have hx8 : 8 ≤ xs.length := by rw [n6]; simp
          obtain ⟨Av, cv, ev⟩ := Kd.R_slice HV.out
          have hvl : (out ++ [r0, r1, r2, r3, r4, r5, r6, r7]).length = 8 * (k + 1) := by rw [List.length_append, n5]; simp; omega
          rw [hvl] at ev
          subst ev
          exact ⟨k + 1, by omega, ⟨A', c - 8, by rw [n3, List.length_drop], ⟨by rw [n3]; exact HC2.out, by rw [n3]; exact HA2.out⟩⟩, ⟨Av, cv, rfl, ⟨by rw [n2]; exact HV.out⟩⟩, ⟨by rw [n1]; exact HI3.out⟩, HP3, HW⟩
        case measure => show xs.length - 8 < xs.length; omega
    · have hz : (l.drop (8 * k)).length = 0 := by rw [List.length_drop]; omega
      have hkk : k = l.length / 8 := by have := H8.out; omega
      rw [hz]
      go_wp2
      go_ret
      have hE := HE.out
      rw [← hkk] at hE
      exact ⟨_, rfl, by rw [← HIV.out, hE]; exact HO.out, HB.out⟩
theorem empty_Cbc (n0 n1 n2 : Nat) (h : ¬ (n0 = 16 ∧ n1 = 8 ∧ n2 % 8 = 0 ∧ n2 ≤ 4096)) : ((n0 : Int) != 16) = true ∨ (((n0 : Int) != 16) = false ∧ ((n1 : Int) != 8) = true) ∨ (((n0 : Int) != 16) = false ∧ ((n1 : Int) != 8) = false ∧ (((n2 : Int) % 8) != 0) = true) ∨ (((n0 : Int) != 16) = false ∧ ((n1 : Int) != 8) = false ∧ (((n2 : Int) % 8) != 0) = false ∧ decide ((n2 : Int) > 4096) = true) := by
  simp only [bne_iff_ne, ne_eq, bne_eq_false_iff_eq, decide_eq_true_eq]
  omega
set_option maxHeartbeats 1000000 in
theorem impl_Cbc.calls0 (A0 : Option Addr) (c0 : Nat) (n0 : Nat) (A1 : Option Addr) (c1 : Nat) (n1 : Nat) (A2 : Option Addr) (c2 : Nat) (n2 : Nat) (dec : Bool) (w : World) (h : ¬ (n0 = 16 ∧ n1 = 8 ∧ n2 % 8 = 0 ∧ n2 ≤ 4096)) :
    Calls Tryd.prog 30 #[.slice A0 n0 c0, .slice A1 n1 c1, .slice A2 n2 c2, .bool dec] w fun e w' => ∃ v0_ : Value, e = .returned (v0_) ∧ Kd.R (Kd.int .u8) 5 w' w.heap.size (fun _ => True) v0_ [] ∧ Below w.heap.size w w' := by
  rcases empty_Cbc n0 n1 n2 h with b | ⟨b, b1⟩ | ⟨b, b1, b2⟩ | ⟨b, b1, b2, b3⟩
  all_goals
    clear h
    go_enter Tryd.func30, Tryd.ntmps30
    go_wp2_with fail
    go_ret
    exact ⟨_, rfl, empty_R _ _ rfl, (Below.refl _ _).alloc (Nat.le_refl _) _⟩
end Go.Proofs.YtbjlpdfhjapbkaaDoor
