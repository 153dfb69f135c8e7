/- Contract of impl.chain: blocks go through a function of one. Conditions: whole blocks of bytes, at most 2^16 bytes; the function given keeps its contract. -/
import Derived.Test.YtbjlpdfhjapbkaaDoorForth
namespace Go.Proofs.YtbjlpdfhjapbkaaDoor
open Go.RowKit Go.Proofs.YtbjlpdfhjapbkaaDoorW.PrintWords Go.Proofs.YtbjlpdfhjapbkaaDoorW.PrintLast Go.Proofs.YtbjlpdfhjapbkaaDoorW.PrintMore Go.Proofs.YtbjlpdfhjapbkaaDoor.D
open Go.Proofs.YtbjlpdfhjapbkaaDoor.B (xorL xorL_length)
set_option linter.unusedVariables false

def sliceLen : Value → Nat
  | .slice _ n _ => n
  | _ => 0
theorem xor_byte (x y : Int) (hx : 0 ≤ x ∧ x ≤ 255) (hy : 0 ≤ y ∧ y ≤ 255) : 0 ≤ Go.bits .xor .u8 x y ∧ Go.bits .xor .u8 x y ≤ 255 := by
  obtain ⟨⟨n, rfl⟩, h1⟩ : (∃ n : Nat, x = n) ∧ x ≤ 255 := ⟨⟨x.toNat, by omega⟩, hx.2⟩
  obtain ⟨⟨m, rfl⟩, h2⟩ : (∃ n : Nat, y = n) ∧ y ≤ 255 := ⟨⟨y.toNat, by omega⟩, hy.2⟩
  have h := (List.all_eq_true.1 (show ((List.range 256).all fun i => (List.range 256).all fun j => decide (0 ≤ Go.bits .xor .u8 (i : Int) (j : Int) ∧ Go.bits .xor .u8 (i : Int) (j : Int) ≤ 255)) = true by decide +kernel)) n (List.mem_range.2 (by omega))
  exact of_decide_eq_true ((List.all_eq_true.1 h) m (List.mem_range.2 (by omega)))
theorem xor_zero (x : Int) (hx : 0 ≤ x ∧ x ≤ 255) : Go.bits .xor .u8 0 x = x := by
  obtain ⟨⟨n, rfl⟩, h1⟩ : (∃ n : Nat, x = n) ∧ x ≤ 255 := ⟨⟨x.toNat, by omega⟩, hx.2⟩
  exact of_decide_eq_true ((List.all_eq_true.1 (show ((List.range 256).all fun i => decide (Go.bits .xor .u8 0 (i : Int) = (i : Int))) = true by decide +kernel)) n (List.mem_range.2 (by omega)))
theorem xorL_bytes : ∀ (a b : List Int), Bytes a → Bytes b → Bytes (xorL a b)
  | [], _, _, _ => fun x hx => by simp [xorL] at hx
  | _ :: _, [], _, _ => fun x hx => by simp [xorL] at hx
  | x :: a, y :: b, ha, hb => fun z hz => by
    have hz' : z = Go.bits .xor .u8 x y ∨ z ∈ xorL a b := by simpa [xorL] using hz
    rcases hz' with rfl | h
    · exact xor_byte x y (ha x (List.mem_cons_self ..)) (hb y (List.mem_cons_self ..))
    · exact xorL_bytes a b (fun q hq => ha q (List.mem_cons_of_mem _ hq)) (fun q hq => hb q (List.mem_cons_of_mem _ hq)) z h
theorem xorL_zeros : ∀ (n : Nat) (b : List Int), b.length = n → Bytes b → xorL (List.replicate n 0) b = b
  | 0, [], _, _ => rfl
  | n + 1, x :: b, h, hb => by
    have e : xorL (List.replicate (n + 1) 0) (x :: b) = Go.bits .xor .u8 0 x :: xorL (List.replicate n 0) b := rfl
    rw [e, xor_zero x (hb x (List.mem_cons_self ..)), xorL_zeros n b (by simpa using h) (fun q hq => hb q (List.mem_cons_of_mem _ hq))]
theorem xor8_two (a b : List Int) (ha : a.length = 8) (hab : Bytes a) (hb : b.length = 8) (g c : Nat) (t : TypeId) (w : World) (h : Blk w g .u8 t (a ++ b)) :
    Calls Tryd.prog 55 #[.slice (some ⟨g, 0, none⟩) 2 c] w fun e w' => e = .returned (.agg (nums .u8 (xorL a b)).toArray) ∧ Below w.heap.size w w' := by
  have hx : foldX (fun k => if k = 0 then a else b) 2 = xorL a b := by
    show xorL (xorL (List.replicate 8 0) a) b = xorL a b
    rw [xorL_zeros 8 a ha hab]
  rw [← hx]
  refine impl_xor8.calls (fun k => if k = 0 then a else b) 2 c g w (by omega) (fun k => by show (if k = 0 then a else b).length = 8; split <;> assumption) (fun k hk j v hv => ?_)
  have hr := h.range
  have hj : j < 8 := by
    have := (List.getElem?_eq_some_iff.1 hv).1
    rw [nums_length] at this
    split at this <;> omega
  have e : (nums .u8 (a ++ b))[8 * k + j]? = some v := by
    rw [← hv]
    have ea : nums .u8 (a ++ b) = nums .u8 a ++ nums .u8 b := by simp [nums]
    rw [ea]
    rcases (by omega : k = 0 ∨ k = 1) with rfl | rfl
    · rw [List.getElem?_append_left (by rw [nums_length]; omega), Nat.mul_zero, Nat.zero_add]
      rfl
    · rw [List.getElem?_append_right (by rw [nums_length]; omega), nums_length, ha]
      have : 8 * 1 + j - 8 = j := by omega
      rw [this]
      rfl
  have := hr (8 * k + j) v e
  rw [Nat.zero_add] at this
  exact this
def chS (F : List Int → List Int) (iv l : List Int) : Nat → List Int × List Int
  | 0 => (iv, [])
  | k + 1 => (F (xorL (chS F iv l k).1 ((l.drop (8 * k)).take 8)), (chS F iv l k).2 ++ F (xorL (chS F iv l k).1 ((l.drop (8 * k)).take 8)))
def chainL (F : List Int → List Int) (iv l : List Int) : List Int := (chS F iv l (l.length / 8)).2
theorem chS_good (F : List Int → List Int) (hF : ∀ b, b.length = 8 → (F b).length = 8 ∧ Bytes (F b)) (iv l : List Int) (hiv : iv.length = 8) (hb : Bytes iv) : ∀ k, 8 * k ≤ l.length → (chS F iv l k).1.length = 8 ∧ Bytes (chS F iv l k).1 ∧ (chS F iv l k).2.length = 8 * k
  | 0, _ => ⟨hiv, hb, rfl⟩
  | k + 1, h => by
    obtain ⟨h1, h2, h3⟩ := chS_good F hF iv l hiv hb k (by omega)
    have hx : (xorL (chS F iv l k).1 ((l.drop (8 * k)).take 8)).length = 8 := by rw [xorL_length _ _ (by rw [h1, List.length_take, List.length_drop]; omega), h1]
    obtain ⟨f1, f2⟩ := hF _ hx
    exact ⟨f1, f2, by show ((chS F iv l k).2 ++ F _).length = _; rw [List.length_append, h3, f1]; omega⟩
theorem blk_set8n {w : World} {g : Nat} {t : TypeId} {a0 a1 a2 a3 a4 a5 a6 a7 : Int} (h : Blk w g .u8 t [a0, a1, a2, a3, a4, a5, a6, a7]) (r0 r1 r2 r3 r4 r5 r6 r7 : Int) :
    Blk (((((((((w.setCell ⟨g, 0, none⟩ (.int .u8 r0)).setCell ⟨g, 1, none⟩ (.int .u8 r1)).setCell ⟨g, 2, none⟩ (.int .u8 r2)).setCell ⟨g, 3, none⟩ (.int .u8 r3)).setCell ⟨g, 4, none⟩ (.int .u8 r4)).setCell ⟨g, 5, none⟩ (.int .u8 r5)).setCell ⟨g, 6, none⟩ (.int .u8 r6)).setCell ⟨g, 7, none⟩ (.int .u8 r7))) g .u8 t [r0, r1, r2, r3, r4, r5, r6, r7] :=
  (((((((h.set 0 r0).set 1 r1).set 2 r2).set 3 r3).set 4 r4).set 5 r5).set 6 r6).set 7 r7
theorem R_set8 {w : World} {g base : Nat} {ok : Nat → Prop} {v : Value} {xs : List Int} {a0 a1 a2 a3 a4 a5 a6 a7 : Int} (hR : Kd.R (Kd.int .u8) 5 w base ok v xs) (h : Blk w g .u8 38 [a0, a1, a2, a3, a4, a5, a6, a7]) (r0 r1 r2 r3 r4 r5 r6 r7 : Int) :
    Kd.R (Kd.int .u8) 5 (((((((((w.setCell ⟨g, 0, none⟩ (.int .u8 r0)).setCell ⟨g, 1, none⟩ (.int .u8 r1)).setCell ⟨g, 2, none⟩ (.int .u8 r2)).setCell ⟨g, 3, none⟩ (.int .u8 r3)).setCell ⟨g, 4, none⟩ (.int .u8 r4)).setCell ⟨g, 5, none⟩ (.int .u8 r5)).setCell ⟨g, 6, none⟩ (.int .u8 r6)).setCell ⟨g, 7, none⟩ (.int .u8 r7))) base ok v xs := by
  have hq : ∀ q, q ∈ 5 :: (Kd.int .u8).E → q ≠ 38 := by
    intro q hq
    simp only [Kd.int, Kd.scalar, List.mem_cons, List.not_mem_nil, or_false] at hq
    subst hq
    decide
  have h1 := h.set 0 r0
  have h2 := h1.set 1 r1
  have h3 := h2.set 2 r2
  have h4 := h3.set 3 r3
  have h5 := h4.set 4 r4
  have h6 := h5.set 5 r5
  have h7 := h6.set 6 r6
  exact Kd.R_set (Kd.R_set (Kd.R_set (Kd.R_set (Kd.R_set (Kd.R_set (Kd.R_set (Kd.R_set hR h hq 0 _) h1 hq 1 _) h2 hq 2 _) h3 hq 3 _) h4 hq 4 _) h5 hq 5 _) h6 hq 6 _) h7 hq 7 _

set_option maxHeartbeats 8000000 in
theorem impl_chain.gen (fN : Nat) (u : Value) (F : List Int → List Int) (iv : List Int) (A1 : Option Addr) (c1 : Nat) (l : List Int) (w : World)
    (hcf : ∀ (x : Value) (w1 : World), (callFunc fN #[u, x]).run Tryd.prog w1 = .ok (.enter fN #[u, x]) w1) (hF : ∀ b, b.length = 8 → (F b).length = 8 ∧ Bytes (F b)) (hK : ∀ b, b.length = 8 → Bytes b → ∀ w1, Tab w1 → Calls Tryd.prog fN #[u, .agg (nums .u8 b).toArray] w1 fun e w' => e = .returned (.agg (nums .u8 (F b)).toArray) ∧ Below w1.heap.size w1 w')
    (hiv : iv.length = 8) (hivb : Bytes iv) (hr1 : Kd.C (Kd.int .u8) w A1 l.length l) (hc1 : l.length ≤ c1) (hlb : Bytes l) (h8 : l.length % 8 = 0) (hmax : l.length ≤ 65536) (ht : Tab w) :
    Calls Tryd.prog 39 #[.agg (nums .u8 iv).toArray, .slice A1 l.length c1, .func (.func fN) #[u] #[]] w fun e w' => ∃ v0_ : Value, e = .returned (v0_) ∧ Kd.R (Kd.int .u8) 5 w' w.heap.size (fun _ => True) v0_ (chainL F iv l) ∧ Below w.heap.size w w' := by
  have HT := Aside0.mk ht
  have KF := Aside0.mk hK
  have HG := Aside0.mk (chS_good F hF iv l hiv hivb)
  have HF := Aside0.mk hF
  have HLB := Aside0.mk hlb
  have HE : Aside0 (chainL F iv l = (chS F iv l (l.length / 8)).2) := ⟨rfl⟩
  have HR1 := Aside0.mk hr1
  have H8 := Aside0.mk h8
  have HM := Aside0.mk hmax
  clear ht hK hF hivb hlb h8 hmax
  go_enter Tryd.func39, Tryd.ntmps39
  go_wp2_with fail
  go_loopw [1, 7] (fun v1 v7 wr => ∃ k : Nat, 8 * k ≤ l.length ∧ (∃ (A : Option Addr) (c : Nat), v1 = .slice A (l.drop (8 * k)).length c ∧ Aside0 ((l.drop (8 * k)).length ≤ c ∧ Kd.C (Kd.int .u8) w A (l.drop (8 * k)).length (l.drop (8 * k)))) ∧ (∃ (Ao : Option Addr) (co : Nat), v7 = .slice Ao (8 * k) co ∧ Aside0 (Kd.R (Kd.int .u8) 5 wr w.heap.size (fun _ => True) (.slice Ao (8 * k) co) (chS F iv l k).2)) ∧ Aside0 (Blk wr w.heap.size .u8 38 (chS F iv l k).1) ∧ Aside0 (Below w.heap.size w wr))
    (fun v1 _ _ => sliceLen v1)
  case atStart =>
    refine ⟨0, by omega, ⟨A1, c1, by simp, ⟨by simpa using hc1, by simpa using HR1.out⟩⟩, ⟨_, _, rfl, ⟨?_⟩⟩, ⟨?_⟩, ⟨?_⟩⟩
    · have h_ := empty_R (w.alloc (.cells (nums .u8 iv).toArray 38)) (.cells #[] 5) rfl
      simpa [chS] using Kd.R_lower h_ (by simp)
    · exact (blk_new_then w .u8 38 iv _)
    · exact ((Below.refl _ _).alloc (Nat.le_refl _) _).alloc (by simp) _
  case round =>
    obtain ⟨k, hk, ⟨A, c, rfl, HA⟩, ⟨Ao, co, rfl, HO⟩, HI, HB⟩ := hrel
    by_cases hlt : 8 * k < l.length
    · have hdl : (l.drop (8 * k)).length = l.length - 8 * k := List.length_drop
      have h8' := H8.out
      obtain ⟨g1, g2, g3⟩ := HG.out k hk
      have hnx1 : (chS F iv l (k + 1)).1 = F (xorL (chS F iv l k).1 ((l.drop (8 * k)).take 8)) := rfl
      have hnx2 : (chS F iv l (k + 1)).2 = (chS F iv l k).2 ++ F (xorL (chS F iv l k).1 ((l.drop (8 * k)).take 8)) := rfl
      have hnd : l.drop (8 * (k + 1)) = (l.drop (8 * k)).drop 8 := by rw [List.drop_drop, Nat.mul_succ]
      have hxb : Bytes (l.drop (8 * k)) := HLB.out.drop _
      obtain ⟨xs, hxs⟩ : ∃ xs, xs = l.drop (8 * k) := ⟨_, rfl⟩
      rw [← hxs] at HA hdl hnx1 hnx2 hnd hxb ⊢
      obtain ⟨d0, d1, d2, d3, d4, d5, d6, d7, t, hex⟩ := list8 (l := xs) (by omega)
      have hdt : xs.take 8 = [d0, d1, d2, d3, d4, d5, d6, d7] := by rw [hex]; rfl
      have hdb : Bytes [d0, d1, d2, d3, d4, d5, d6, d7] := hdt ▸ hxb.take 8
      rw [hdt] at hnx1 hnx2
      obtain ⟨cur, hcur⟩ : ∃ cur, cur = (chS F iv l k).1 := ⟨_, rfl⟩
      rw [← hcur] at HI g1 g2 hnx1 hnx2
      obtain ⟨out, hout⟩ : ∃ out, out = (chS F iv l k).2 := ⟨_, rfl⟩
      rw [← hout] at HO g3 hnx2
      have hx8 : (xorL cur [d0, d1, d2, d3, d4, d5, d6, d7]).length = 8 := by rw [xorL_length _ _ (by rw [g1]; exact Nat.le_refl _), g1]
      have hxB : Bytes (xorL cur [d0, d1, d2, d3, d4, d5, d6, d7]) := xorL_bytes _ _ g2 hdb
      obtain ⟨f1, f2⟩ := HF.out _ hx8
      have KFk := Aside0.mk (KF.out _ hx8 hxB)
      have KX := Aside0.mk (fun (g c : Nat) (w1 : World) (h : Blk w1 g .u8 38 (cur ++ [d0, d1, d2, d3, d4, d5, d6, d7])) => xor8_two cur [d0, d1, d2, d3, d4, d5, d6, d7] g1 g2 rfl g c 38 w1 h)
      obtain ⟨nx, hnx⟩ : ∃ nx, nx = F (xorL cur [d0, d1, d2, d3, d4, d5, d6, d7]) := ⟨_, rfl⟩
      rw [← hnx] at hnx1 hnx2 f1 f2 KFk
      obtain ⟨ux, hux⟩ : ∃ u, u = Value.agg (nums .u8 (xorL cur [d0, d1, d2, d3, d4, d5, d6, d7])).toArray := ⟨_, rfl⟩
      rw [← hux] at KFk KX
      clear hux hnx hx8 hxB g2 f2 hdb hxb hcur hout
      obtain ⟨i0, i1, i2, i3, i4, i5, i6, i7, rfl⟩ := eight cur g1
      obtain ⟨r0, r1, r2, r3, r4, r5, r6, r7, rfl⟩ := eight nx f1
      have HN := Aside0.mk (And.intro hnx1 (And.intro hnx2 (And.intro hnd (And.intro hdl (And.intro g3 hex)))))
      clear hnx1 hnx2 hnd g1 f1 g3
      obtain ⟨ad, hAd, hcell⟩ := C_cells (Kd.C_below HA.out.2 HB.out) (by omega)
      subst hAd
      have y0 : wr.cell? ad = some (.int .u8 d0) := by have := hcell 0 _ (by rw [hex]; rfl); exact this
      have y1 : wr.cell? ⟨ad.block, ad.off + 1, none⟩ = some (.int .u8 d1) := hcell 1 _ (by rw [hex]; rfl)
      have y2 : wr.cell? ⟨ad.block, ad.off + 2, none⟩ = some (.int .u8 d2) := hcell 2 _ (by rw [hex]; rfl)
      have y3 : wr.cell? ⟨ad.block, ad.off + 3, none⟩ = some (.int .u8 d3) := hcell 3 _ (by rw [hex]; rfl)
      have y4 : wr.cell? ⟨ad.block, ad.off + 4, none⟩ = some (.int .u8 d4) := hcell 4 _ (by rw [hex]; rfl)
      have y5 : wr.cell? ⟨ad.block, ad.off + 5, none⟩ = some (.int .u8 d5) := hcell 5 _ (by rw [hex]; rfl)
      have y6 : wr.cell? ⟨ad.block, ad.off + 6, none⟩ = some (.int .u8 d6) := hcell 6 _ (by rw [hex]; rfl)
      have y7 : wr.cell? ⟨ad.block, ad.off + 7, none⟩ = some (.int .u8 d7) := hcell 7 _ (by rw [hex]; rfl)
      have nn1 := World.new_ne wr ad y0
      obtain ⟨⟨x0, x1, x2, x3, x4, x5, x6, x7⟩, f0, f1, f2, f3, f4, f5, f6, f7⟩ := blk8 HI.out
      clear hcell hex
      simp only [nums, List.map_cons, List.map_nil] at KFk
      have hta := fun (w1 : World) => array_at (P := Tryd.prog) (t := 38) Tryd.underlying38 (show 8 ≤ xs.length by omega) (some ad) c w1
      obtain ⟨i0_, hi0_, _, hsz_, _⟩ := info_parts info5
      obtain ⟨A', hcut, hA', hC'⟩ := print_drop_of (P := Tryd.prog) (Value.int .u8) 0 22 5 .i64 Tryd.underlying22 hi0_ hsz_ (some ad) c xs 8 (by omega) (by omega) HA.out.1
      have HA2 : Aside0 (Kd.C (Kd.int .u8) w A' (xs.drop (8 : Int).toNat).length (xs.drop (8 : Int).toNat)) := ⟨Kd.C_of_reads (h1 := fun _ => rfl) (hA' _ (Kd.reads_of_C HA.out.2))⟩
      have HC2 := Aside0.mk hC'
      have q0 : decide ((0 : Int) < (xs.length : Int)) = true := decide_eq_true (by omega)
      have HXS := Aside0.mk hxs
      have q1 : 0 < xs.length := by omega
      have q2 : ¬ xs = [] := by intro h; rw [h] at q1; exact Nat.lt_irrefl 0 q1
      clear hA' hC' hi0_ hsz_ hdl hdt h8' hxs
      go_upto_region 4 with fail
      go_cut [1, 7] from 9 to 24 (fun s1 s7 wc => s1 = .slice (some ad) xs.length c ∧ s7 = .slice Ao (8 * k) co ∧ Aside0 (Blk wc w.heap.size .u8 38 [r0, r1, r2, r3, r4, r5, r6, r7]) ∧ Aside0 (Below w.heap.size w wc) ∧ Aside0 (Kd.R (Kd.int .u8) 5 wc w.heap.size (fun _ => True) (.slice Ao (8 * k) co) out))
      case first =>
        go_region_with (first
          | (go_at_call 55; go_must (refine (KX.out _ _ _ ?bb).mono ?_; (case bb => exact (show Blk _ _ _ _ _ from blk_new _ (.cells (nums .u8 [i0, i1, i2, i3, i4, i5, i6, i7, d0, d1, d2, d3, d4, d5, d6, d7]).toArray 38))); rintro e w1 ⟨rfl, hb1⟩; have HB1 := Aside0.mk (below_then (by repeat (first | exact Below.refl wr.heap.size wr | apply below_drew1 | apply below_alloc)) (by simp) hb1); clear hb1))
          | (with_reducible refine (KFk.out _ ?tt).mono ?_; go_must ((case tt => exact HT.out.below (below_step HB.out HB1.out)); rintro e w2 ⟨rfl, hb2⟩; have HB2 := Aside0.mk (below_step HB1.out hb2); clear hb2; have hz := blk8 (HI.out.below HB2.out); obtain ⟨⟨z0, z1, z2, z3, z4, z5, z6, z7⟩, ff0, ff1, ff2, ff3, ff4, ff5, ff6, ff7⟩ := hz)))
        all_goals go_wp2
        all_goals go_meet
        all_goals (case rel => exact ⟨rfl, rfl, ⟨blk_set8n (HI.out.below HB2.out) _ _ _ _ _ _ _ _⟩, ⟨below_set8 (below_step HB.out HB2.out) (Nat.le_refl _) _ _ _ _ _ _ _ _⟩, ⟨R_set8 (Kd.R_below HO.out HB2.out) (HI.out.below HB2.out) _ _ _ _ _ _ _ _⟩⟩)
      case rest =>
        obtain ⟨rfl, rfl, C1, C2, C3⟩ := hcut
        have HSZ : Aside0 (8 * k + 8 ≤ 65536) := ⟨by have := HM.out; omega⟩
        clear x0 x1 x2 x3 x4 x5 x6 x7 f0 f1 f2 f3 f4 f5 f6 f7 y0 y1 y2 y3 y4 y5 y6 y7 nn1 hta
        go_wp2_with (first | ((with_reducible refine gate_builtin (b := .append) (xs := #[.tmp 22, .tmp 23]) rfl ?_); at_builtin; go_must (refine Kd.R_append_rows (Kd.int .u8) (w0 := w) w.heap.size rfl (.tmp 22) (.tmp 23) 22 5 (.int .u8 0) 1 rfl Tryd.underlying22 info5 rfl (by decide) (by omega) (.slice Ao (8 * k) co) out [r0, r1, r2, r3, r4, r5, r6, r7] _ _ _ (fun _ => True) (fun _ => False) rfl rfl ?aO ?aR (fun _ _ h => h) (fun _ h => h.elim) ?aF ?aB ?aS ?aL ?_; (case aO => exact C3.out); (case aR => exact (Kd.R_reads' (C1.out.R (n := 8) (Nat.le_refl _) rfl (by omega))).2.2); (case aF => intro k hk; trivial); (case aB => exact C2.out); (case aS => exact C2.out.size); (case aL => rw [HN.out.2.2.2.2.1]; have := HSZ.out; omega); intro v1 w3 ho hb hg hat; have HV := Aside0.mk ho; have HW := Aside0.mk hb; have HI3 := Aside0.mk (C1.out.grown hg (Kd.R_ne C3.out C1.out (by decide))); clear ho hb hg hat)))
        go_roundw
        case rel =>
          obtain ⟨n1, n2, n3, n4, n5, n6⟩ := HN.out
          have hx8 : 8 ≤ xs.length := by rw [n6]; simp
          obtain ⟨Av, cv, ev⟩ := Kd.R_slice HV.out
          have hvl : (out ++ [r0, r1, r2, r3, r4, r5, r6, r7]).length = 8 * (k + 1) := by rw [List.length_append, n5]; simp; omega
          rw [hvl] at ev
          subst ev
          exact ⟨k + 1, by omega, ⟨A', c - 8, by rw [n3, List.length_drop], ⟨by rw [n3]; exact HC2.out, by rw [n3]; exact HA2.out⟩⟩, ⟨Av, cv, rfl, ⟨by rw [n2]; exact HV.out⟩⟩, ⟨by rw [n1]; exact HI3.out⟩, HW⟩
        case measure => show xs.length - 8 < xs.length; omega
    · have hz : (l.drop (8 * k)).length = 0 := by rw [List.length_drop]; omega
      have hkk : k = l.length / 8 := by have := H8.out; omega
      rw [hz]
      go_wp2
      go_ret
      exact ⟨_, rfl, by rw [HE.out, ← hkk]; exact HO.out, HB.out⟩
theorem impl_chain_single.calls (key iv : List Int) (A1 : Option Addr) (c1 : Nat) (l : List Int) (w : World) (hk : key.length = 8) (hkb : Bytes key)
    (hiv : iv.length = 8) (hivb : Bytes iv) (hr1 : Kd.C (Kd.int .u8) w A1 l.length l) (hc1 : l.length ≤ c1) (hlb : Bytes l) (h8 : l.length % 8 = 0) (hmax : l.length ≤ 65536) (ht : Tab w) :
    Calls Tryd.prog 39 #[.agg (nums .u8 iv).toArray, .slice A1 l.length c1, .func (.func 40) #[.agg (nums .u8 key).toArray] #[]] w fun e w' => ∃ v0_ : Value, e = .returned (v0_) ∧ Kd.R (Kd.int .u8) 5 w' w.heap.size (fun _ => True) v0_ (chainL (fun b => desL key b false) iv l) ∧ Below w.heap.size w w' :=
  impl_chain.gen _ _ (fun b => desL key b false) iv A1 c1 l w (fun _ _ => rfl) (fun b h => ⟨desL_length _ _ _ h, desL_bytes _ _ _ h⟩) (fun b h hb w1 t1 => impl_single_forth.calls key b w1 hk hkb h hb t1) hiv hivb hr1 hc1 hlb h8 hmax ht
theorem impl_chain_pair.calls (key iv : List Int) (A1 : Option Addr) (c1 : Nat) (l : List Int) (w : World) (hk : key.length = 16) (hkb : Bytes key)
    (hiv : iv.length = 8) (hivb : Bytes iv) (hr1 : Kd.C (Kd.int .u8) w A1 l.length l) (hc1 : l.length ≤ c1) (hlb : Bytes l) (h8 : l.length % 8 = 0) (hmax : l.length ≤ 65536) (ht : Tab w) :
    Calls Tryd.prog 39 #[.agg (nums .u8 iv).toArray, .slice A1 l.length c1, .func (.func 54) #[.agg (nums .u8 key).toArray] #[]] w fun e w' => ∃ v0_ : Value, e = .returned (v0_) ∧ Kd.R (Kd.int .u8) 5 w' w.heap.size (fun _ => True) v0_ (chainL (fun b => tdeaL (key.take 8) (key.drop 8) b false) iv l) ∧ Below w.heap.size w w' :=
  impl_chain.gen _ _ (fun b => tdeaL (key.take 8) (key.drop 8) b false) iv A1 c1 l w (fun _ _ => rfl) (fun b h => ⟨tdeaL_length _ _ _ _ h, tdeaL_bytes _ _ _ _ h⟩) (fun b h hb w1 t1 => impl_pair_forth.calls key b w1 hk hkb h hb t1) hiv hivb hr1 hc1 hlb h8 hmax ht
end Go.Proofs.YtbjlpdfhjapbkaaDoor
