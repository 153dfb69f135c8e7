-- Written by a program of this session (a scratch copy of the print with functions taken as proved): Lean checks it.
import Derived.Test.YtiejallnkgllnaaLPin0
import Derived.Test.YtiejallnkgllnaaLPin1
import Derived.Test.YtiejallnkgllnaaRpP
namespace Go.Proofs.Ytiejallnkgllnaa.LPin
open Go.RowKit Go.Proofs.YtiejallnkgllnaaW.PrintWords Go.Proofs.YtiejallnkgllnaaW.PrintLast Go.Proofs.YtiejallnkgllnaaW.PrintMore
attribute [local go_sem] max2_int min2_int max_two min_two max_three min_three max_four min_four   -- for this text's walks alone
set_option linter.unusedVariables false
set_option linter.unusedSimpArgs false

/-! ### spec_ReadPin: function 14 -/
mutual
def spec_ReadPin.j0 : Nat → Int → List Int → ByteArray → Bool → Int → ByteArray → Option (Int × ByteArray)
  | 0, _, _, _, _, _, _ => none
  | k + 1, x0, x1, x2, x31, x172000, x172001 => if x31 = true then (some (x172000, x172001)) else (spec_ReadPin.l0 k x0 x2 ([] : List Int) x1 (x1.length : Int) 0 x172000 x172001)
def spec_ReadPin.l0 : Nat → Int → ByteArray → List Int → List Int → Int → Int → Int → ByteArray → Option (Int × ByteArray)
  | 0, _, _, _, _, _, _, _, _ => none
  | k + 1, x0, x2, x8, x33, x34, x35, x172000, x172001 => if x35 < x34 then (if 0 ≤ x35 then (if x35 < (x33.length : Int) then ((some (([(rd x33 x35) / 16, Go.bits .and .u8 (rd x33 x35) 15] : List Int) : List Int)).bind fun y175 => (if x8.length + y175.length < 140737488355328 then (spec_ReadPin.l0 k x0 x2 (x8 ++ y175) x33 x34 (wrap64 (x35 + 1)) x172000 x172001) else (none))) else (none)) else (none)) else ((spec_l4Account.f x2).bind fun t181 => ((spec_l1Xor.f k x8 t181).bind fun t184 => (if 1 < (t184.length : Int) then (if 0 < (t184.length : Int) then (if (wrap64 (rd t184 0)) = x0 then (if (wrap64 (rd t184 1)) < 4 then (spec_ReadPin.j2 k x0 t184 (wrap64 (rd t184 1)) true x172000 x172001) else (spec_ReadPin.j2 k x0 t184 (wrap64 (rd t184 1)) (decide ((wrap64 (rd t184 1)) > 12)) x172000 x172001)) else (spec_ReadPin.j2 k x0 t184 (wrap64 (rd t184 1)) true x172000 x172001)) else (none)) else (none))))
def spec_ReadPin.j2 : Nat → Int → List Int → Int → Bool → Int → ByteArray → Option (Int × ByteArray)
  | 0, _, _, _, _, _, _ => none
  | k + 1, x0, x8, x11, x68, x172000, x172001 => if x68 = true then (some (x172000, x172001)) else (if 2 ≤ (x8.length : Int) then ((some (x8.drop 2 : List Int)).bind fun y189 => (spec_ReadPin.l1 k x0 x11 (⟨#[]⟩ : ByteArray) y189 (y189.length : Int) 0 x172000 x172001)) else (none))
def spec_ReadPin.l1 : Nat → Int → Int → ByteArray → List Int → Int → Int → Int → ByteArray → Option (Int × ByteArray)
  | 0, _, _, _, _, _, _, _, _ => none
  | k + 1, x0, x11, x12, x71, x72, x73, x172000, x172001 => if x73 < x72 then (if 0 ≤ x73 then (if x73 < (x71.length : Int) then (if x73 < x11 then (spec_ReadPin.j4 k x0 x11 x12 x73 (rd x71 x73) x71 x72 x73 (decide ((rd x71 x73) > 9)) x172000 x172001) else (spec_ReadPin.j4 k x0 x11 x12 x73 (rd x71 x73) x71 x72 x73 false x172000 x172001)) else (none)) else (none)) else (some (0, x12))
def spec_ReadPin.j4 : Nat → Int → Int → ByteArray → Int → Int → List Int → Int → Int → Bool → Int → ByteArray → Option (Int × ByteArray)
  | 0, _, _, _, _, _, _, _, _, _, _, _ => none
  | k + 1, x0, x11, x12, x13, x14, x71, x72, x73, x78, x172000, x172001 => if x78 = true then (some (x172000, x172001)) else (if x13 < x11 then ((some (([(48 + x14) % 256] : List Int) : List Int)).bind fun y194 => (if x12.size + (strOfNums y194).size ≤ 9223372036854775807 then (spec_ReadPin.l1 k x0 x11 (x12 ++ (strOfNums y194)) x71 x72 (wrap64 (x73 + 1)) x172000 x172001) else (none))) else (if x0 = 0 then (if x14 = 15 then (if x14 < 10 then (some (x172000, x172001)) else (spec_ReadPin.l1 k x0 x11 x12 x71 x72 (wrap64 (x73 + 1)) x172000 x172001)) else (some (x172000, x172001))) else (if x14 < 10 then (some (x172000, x172001)) else (spec_ReadPin.l1 k x0 x11 x12 x71 x72 (wrap64 (x73 + 1)) x172000 x172001))))
end
def spec_ReadPin.f (k : Nat) (a0 : Int) (l1 : List Int) (a2 : ByteArray) : Option (Int × ByteArray) := if a0 = 0 then ((spec_l4GoodPan.f k a2).bind fun t172 => (if t172 = true then (spec_ReadPin.j0 k a0 l1 a2 ((l1.length : Int) != 8) 1 (⟨#[]⟩ : ByteArray)) else (spec_ReadPin.j0 k a0 l1 a2 true 1 (⟨#[]⟩ : ByteArray)))) else (if a0 = 3 then ((spec_l4GoodPan.f k a2).bind fun t173 => (if t173 = true then (spec_ReadPin.j0 k a0 l1 a2 ((l1.length : Int) != 8) 1 (⟨#[]⟩ : ByteArray)) else (spec_ReadPin.j0 k a0 l1 a2 true 1 (⟨#[]⟩ : ByteArray)))) else (spec_ReadPin.j0 k a0 l1 a2 true 1 (⟨#[]⟩ : ByteArray)))
theorem spec_ReadPin.mono_l : ∀ k, (∀ y0 y1 y2 y3 y4 y5, LeO (spec_ReadPin.j0 k y0 y1 y2 y3 y4 y5) (spec_ReadPin.j0 (k + 1) y0 y1 y2 y3 y4 y5)) ∧ (∀ y0 y1 y2 y3 y4 y5 y6 y7, LeO (spec_ReadPin.l0 k y0 y1 y2 y3 y4 y5 y6 y7) (spec_ReadPin.l0 (k + 1) y0 y1 y2 y3 y4 y5 y6 y7)) ∧ (∀ y0 y1 y2 y3 y4 y5, LeO (spec_ReadPin.j2 k y0 y1 y2 y3 y4 y5) (spec_ReadPin.j2 (k + 1) y0 y1 y2 y3 y4 y5)) ∧ (∀ y0 y1 y2 y3 y4 y5 y6 y7, LeO (spec_ReadPin.l1 k y0 y1 y2 y3 y4 y5 y6 y7) (spec_ReadPin.l1 (k + 1) y0 y1 y2 y3 y4 y5 y6 y7)) ∧ (∀ y0 y1 y2 y3 y4 y5 y6 y7 y8 y9 y10, LeO (spec_ReadPin.j4 k y0 y1 y2 y3 y4 y5 y6 y7 y8 y9 y10) (spec_ReadPin.j4 (k + 1) y0 y1 y2 y3 y4 y5 y6 y7 y8 y9 y10))
  | 0 => ⟨fun _ _ _ _ _ _ r h => by simp [spec_ReadPin.j0] at h, fun _ _ _ _ _ _ _ _ r h => by simp [spec_ReadPin.l0] at h, fun _ _ _ _ _ _ r h => by simp [spec_ReadPin.j2] at h, fun _ _ _ _ _ _ _ _ r h => by simp [spec_ReadPin.l1] at h, fun _ _ _ _ _ _ _ _ _ _ _ r h => by simp [spec_ReadPin.j4] at h⟩
  | k + 1 => by
    obtain ⟨ih0, ih1, ih2, ih3, ih4⟩ := spec_ReadPin.mono_l k
    refine ⟨?_, ?_, ?_, ?_, ?_⟩
    · intro y0 y1 y2 y3 y4 y5
      unfold spec_ReadPin.j0
      repeat' first
      | (with_reducible exact ih0 _ _ _ _ _ _)
      | (with_reducible exact ih1 _ _ _ _ _ _ _ _)
      | (with_reducible exact ih2 _ _ _ _ _ _)
      | (with_reducible exact ih3 _ _ _ _ _ _ _ _)
      | (with_reducible exact ih4 _ _ _ _ _ _ _ _ _ _ _)
      | (with_reducible exact spec_l1Xor.mono _ _ _)
      | (with_reducible exact spec_l4GoodPan.mono _ _)
      | (with_reducible exact LeO.refl _)
      | (with_reducible exact LeO.none _)
      | (with_reducible refine LeO.ite ?_ ?_)
      | (with_reducible refine LeO.bind ?_ (fun _ => ?_))
      | exact ih0 _ _ _ _ _ _
      | exact ih1 _ _ _ _ _ _ _ _
      | exact ih2 _ _ _ _ _ _
      | exact ih3 _ _ _ _ _ _ _ _
      | exact ih4 _ _ _ _ _ _ _ _ _ _ _
      | exact spec_l1Xor.mono _ _ _
      | exact spec_l4GoodPan.mono _ _
      | exact LeO.none _
      | refine LeO.ite ?_ ?_
      | refine LeO.bind ?_ (fun _ => ?_)
    · intro y0 y1 y2 y3 y4 y5 y6 y7
      unfold spec_ReadPin.l0
      repeat' first
      | (with_reducible exact ih0 _ _ _ _ _ _)
      | (with_reducible exact ih1 _ _ _ _ _ _ _ _)
      | (with_reducible exact ih2 _ _ _ _ _ _)
      | (with_reducible exact ih3 _ _ _ _ _ _ _ _)
      | (with_reducible exact ih4 _ _ _ _ _ _ _ _ _ _ _)
      | (with_reducible exact spec_l1Xor.mono _ _ _)
      | (with_reducible exact spec_l4GoodPan.mono _ _)
      | (with_reducible exact LeO.refl _)
      | (with_reducible exact LeO.none _)
      | (with_reducible refine LeO.ite ?_ ?_)
      | (with_reducible refine LeO.bind ?_ (fun _ => ?_))
      | exact ih0 _ _ _ _ _ _
      | exact ih1 _ _ _ _ _ _ _ _
      | exact ih2 _ _ _ _ _ _
      | exact ih3 _ _ _ _ _ _ _ _
      | exact ih4 _ _ _ _ _ _ _ _ _ _ _
      | exact spec_l1Xor.mono _ _ _
      | exact spec_l4GoodPan.mono _ _
      | exact LeO.none _
      | refine LeO.ite ?_ ?_
      | refine LeO.bind ?_ (fun _ => ?_)
    · intro y0 y1 y2 y3 y4 y5
      unfold spec_ReadPin.j2
      repeat' first
      | (with_reducible exact ih0 _ _ _ _ _ _)
      | (with_reducible exact ih1 _ _ _ _ _ _ _ _)
      | (with_reducible exact ih2 _ _ _ _ _ _)
      | (with_reducible exact ih3 _ _ _ _ _ _ _ _)
      | (with_reducible exact ih4 _ _ _ _ _ _ _ _ _ _ _)
      | (with_reducible exact spec_l1Xor.mono _ _ _)
      | (with_reducible exact spec_l4GoodPan.mono _ _)
      | (with_reducible exact LeO.refl _)
      | (with_reducible exact LeO.none _)
      | (with_reducible refine LeO.ite ?_ ?_)
      | (with_reducible refine LeO.bind ?_ (fun _ => ?_))
      | exact ih0 _ _ _ _ _ _
      | exact ih1 _ _ _ _ _ _ _ _
      | exact ih2 _ _ _ _ _ _
      | exact ih3 _ _ _ _ _ _ _ _
      | exact ih4 _ _ _ _ _ _ _ _ _ _ _
      | exact spec_l1Xor.mono _ _ _
      | exact spec_l4GoodPan.mono _ _
      | exact LeO.none _
      | refine LeO.ite ?_ ?_
      | refine LeO.bind ?_ (fun _ => ?_)
    · intro y0 y1 y2 y3 y4 y5 y6 y7
      unfold spec_ReadPin.l1
      repeat' first
      | (with_reducible exact ih0 _ _ _ _ _ _)
      | (with_reducible exact ih1 _ _ _ _ _ _ _ _)
      | (with_reducible exact ih2 _ _ _ _ _ _)
      | (with_reducible exact ih3 _ _ _ _ _ _ _ _)
      | (with_reducible exact ih4 _ _ _ _ _ _ _ _ _ _ _)
      | (with_reducible exact spec_l1Xor.mono _ _ _)
      | (with_reducible exact spec_l4GoodPan.mono _ _)
      | (with_reducible exact LeO.refl _)
      | (with_reducible exact LeO.none _)
      | (with_reducible refine LeO.ite ?_ ?_)
      | (with_reducible refine LeO.bind ?_ (fun _ => ?_))
      | exact ih0 _ _ _ _ _ _
      | exact ih1 _ _ _ _ _ _ _ _
      | exact ih2 _ _ _ _ _ _
      | exact ih3 _ _ _ _ _ _ _ _
      | exact ih4 _ _ _ _ _ _ _ _ _ _ _
      | exact spec_l1Xor.mono _ _ _
      | exact spec_l4GoodPan.mono _ _
      | exact LeO.none _
      | refine LeO.ite ?_ ?_
      | refine LeO.bind ?_ (fun _ => ?_)
    · intro y0 y1 y2 y3 y4 y5 y6 y7 y8 y9 y10
      unfold spec_ReadPin.j4
      repeat' first
      | (with_reducible exact ih0 _ _ _ _ _ _)
      | (with_reducible exact ih1 _ _ _ _ _ _ _ _)
      | (with_reducible exact ih2 _ _ _ _ _ _)
      | (with_reducible exact ih3 _ _ _ _ _ _ _ _)
      | (with_reducible exact ih4 _ _ _ _ _ _ _ _ _ _ _)
      | (with_reducible exact spec_l1Xor.mono _ _ _)
      | (with_reducible exact spec_l4GoodPan.mono _ _)
      | (with_reducible exact LeO.refl _)
      | (with_reducible exact LeO.none _)
      | (with_reducible refine LeO.ite ?_ ?_)
      | (with_reducible refine LeO.bind ?_ (fun _ => ?_))
      | exact ih0 _ _ _ _ _ _
      | exact ih1 _ _ _ _ _ _ _ _
      | exact ih2 _ _ _ _ _ _
      | exact ih3 _ _ _ _ _ _ _ _
      | exact ih4 _ _ _ _ _ _ _ _ _ _ _
      | exact spec_l1Xor.mono _ _ _
      | exact spec_l4GoodPan.mono _ _
      | exact LeO.none _
      | refine LeO.ite ?_ ?_
      | refine LeO.bind ?_ (fun _ => ?_)
theorem spec_ReadPin.mono : ∀ a0 a1 a2 k, LeO (spec_ReadPin.f k a0 a1 a2) (spec_ReadPin.f (k + 1) a0 a1 a2) := by
  intro a0 a1 a2 k
  obtain ⟨ih0, ih1, ih2, ih3, ih4⟩ := spec_ReadPin.mono_l k
  unfold spec_ReadPin.f
  repeat' first
      | (with_reducible exact ih0 _ _ _ _ _ _)
      | (with_reducible exact ih1 _ _ _ _ _ _ _ _)
      | (with_reducible exact ih2 _ _ _ _ _ _)
      | (with_reducible exact ih3 _ _ _ _ _ _ _ _)
      | (with_reducible exact ih4 _ _ _ _ _ _ _ _ _ _ _)
      | (with_reducible exact spec_l1Xor.mono _ _ _)
      | (with_reducible exact spec_l4GoodPan.mono _ _)
      | (with_reducible exact LeO.refl _)
      | (with_reducible exact LeO.none _)
      | (with_reducible refine LeO.ite ?_ ?_)
      | (with_reducible refine LeO.bind ?_ (fun _ => ?_))
      | exact ih0 _ _ _ _ _ _
      | exact ih1 _ _ _ _ _ _ _ _
      | exact ih2 _ _ _ _ _ _
      | exact ih3 _ _ _ _ _ _ _ _
      | exact ih4 _ _ _ _ _ _ _ _ _ _ _
      | exact spec_l1Xor.mono _ _ _
      | exact spec_l4GoodPan.mono _ _
      | exact LeO.none _
      | refine LeO.ite ?_ ?_
      | refine LeO.bind ?_ (fun _ => ?_)
set_option maxHeartbeats 8000000 in
set_option maxRecDepth 100000 in
theorem spec_ReadPin.calls (k : Nat) (a0 : Int) (A1 : Option Addr) (c1 : Nat) (l1 : List Int) (a2 : ByteArray) (r1 : Int) (r2 : ByteArray) (w : World) (hr1 : Kd.C (Kd.int .u8) w A1 l1.length l1) (hc1 : l1.length ≤ c1) (h : spec_ReadPin.f k a0 l1 a2 = some (r1, r2)) :
    Calls Try.prog 14 #[.int .i64 a0, .slice A1 l1.length c1, .string a2] w fun e w' => e = .returned (.agg #[.int .i64 r1, .string r2]) ∧ Below w.heap.size w w' := by
  have hu31 := Try.underlying31
  have HR1 := Aside0.mk hr1
  have HC1 := Aside0.mk hc1
  clear hr1 hc1
  have HB := Aside0.mk (Below.refl w.heap.size w)
  have H : (if a0 = 0 then ((spec_l4GoodPan.f k a2).bind fun t172 => (if t172 = true then (spec_ReadPin.j0 k a0 l1 a2 ((l1.length : Int) != 8) 1 (⟨#[]⟩ : ByteArray)) else (spec_ReadPin.j0 k a0 l1 a2 true 1 (⟨#[]⟩ : ByteArray)))) else (if a0 = 3 then ((spec_l4GoodPan.f k a2).bind fun t173 => (if t173 = true then (spec_ReadPin.j0 k a0 l1 a2 ((l1.length : Int) != 8) 1 (⟨#[]⟩ : ByteArray)) else (spec_ReadPin.j0 k a0 l1 a2 true 1 (⟨#[]⟩ : ByteArray)))) else (spec_ReadPin.j0 k a0 l1 a2 true 1 (⟨#[]⟩ : ByteArray)))) = some (r1, r2) := h
  clear h
  have HC4 := Aside0.mk H
  clear H
  go_enter Try.func14, Try.ntmps14
  go_upto_region 2 with (first | ((with_reducible refine gate_dst (N := 6) rfl ?_); (try (refine gate_guard (by rfl) ?_; dsimp only)); refine box_event ?hg (N := 6) ?hd (cs := #[.int .i64 0, .string (⟨#[]⟩ : ByteArray)]) (t := 31) ?hr ?_; (case hd => rfl); (case hg => rfl); (case hr => first | (go_simp; done) | (go_simp; rfl)); intro gb170 hg w5 hbox hb; have n0_ := Aside0.mk (below_step (by repeat (first | (with_reducible first | exact HB.out | apply below_alloc | apply pw_below_drewN | apply below_drew1) | exact HB.out)) hb); have n1_ := Aside0.mk (hbox); have n2_ := Aside0.mk ((by rw [hg]; exact (below_size (by repeat (first | (with_reducible first | exact HB.out | apply below_alloc | apply pw_below_drewN | apply below_drew1) | exact HB.out))) : w.heap.size ≤ gb170)); have n3_ := Aside0.mk ((by rw [hg]; exact (below_size (by repeat (first | (with_reducible first | exact HB.out | apply below_alloc | apply pw_below_drewN | apply below_drew1) | exact HB.out))) : w.heap.size ≤ gb170)); clear HB; have HB := n0_; have BK170 := n1_; have GW170 := n2_; have GE170 := n3_; clear n0_ n1_ n2_ n3_; clear hb hbox hg) | ((with_reducible refine gate_dst (N := 7) rfl ?_); (try (refine gate_guard (by rfl) ?_; dsimp only)); refine box_event ?hg (N := 7) ?hd (cs := #[.int .i64 0, .string (⟨#[]⟩ : ByteArray)]) (t := 31) ?hr ?_; (case hd => rfl); (case hg => rfl); (case hr => first | (go_simp; done) | (go_simp; rfl)); intro gb171 hg w6 hbox hb; have n0_ := Aside0.mk (blk_below (g := gb170) (o := .cells #[.int .i64 0, .string (⟨#[]⟩ : ByteArray)] 31 (0, 0)) (by (with_reducible repeat (first | refine blk_drewN ?_ _ | refine blk_drew ?_ | refine blk_alloc ?_ _)); exact BK170.out) hb); have n1_ := Aside0.mk (below_step (by repeat (first | (with_reducible first | exact HB.out | apply below_alloc | apply pw_below_drewN | apply below_drew1 | refine below_set ?_ GE170.out) | exact HB.out)) hb); have n2_ := Aside0.mk (hbox); have n3_ := Aside0.mk ((by rw [hg]; exact (below_size (by repeat (first | (with_reducible first | exact HB.out | apply below_alloc | apply pw_below_drewN | apply below_drew1 | refine below_set ?_ GE170.out) | exact HB.out))) : w.heap.size ≤ gb171)); have n4_ := Aside0.mk ((by rw [hg]; exact (below_size (by repeat (first | (with_reducible first | exact HB.out | apply below_alloc | apply pw_below_drewN | apply below_drew1 | refine below_set ?_ GE170.out) | exact HB.out))) : w.heap.size ≤ gb171)); have n5_ := Aside0.mk ((by rw [hg]; exact Nat.ne_of_lt (blk_lt (g := gb170) (o := .cells #[.int .i64 0, .string (⟨#[]⟩ : ByteArray)] 31 (0, 0)) (by (with_reducible repeat (first | refine blk_drewN ?_ _ | refine blk_drew ?_ | refine blk_alloc ?_ _)); exact BK170.out)) : gb170 ≠ gb171)); have n6_ := Aside0.mk ((by rw [hg]; exact Nat.ne_of_gt (blk_lt (g := gb170) (o := .cells #[.int .i64 0, .string (⟨#[]⟩ : ByteArray)] 31 (0, 0)) (by (with_reducible repeat (first | refine blk_drewN ?_ _ | refine blk_drew ?_ | refine blk_alloc ?_ _)); exact BK170.out)) : gb171 ≠ gb170)); clear BK170; clear HB; have BK170 := n0_; have HB := n1_; have BK171 := n2_; have GW171 := n3_; have GE171 := n4_; have NB170_171 := n5_; have NB171_170 := n6_; clear n0_ n1_ n2_ n3_ n4_ n5_ n6_; clear hb hbox hg; have hnb7 := NB171_170.out; have hnc7 := NB170_171.out; have hcz8_0 : w6.cell? ⟨gb171, 0, none⟩ = some (.int .i64 0) := (blk_cell BK171.out 0).trans rfl; have hcz8_1 : w6.cell? ⟨gb171, 1, none⟩ = some (.string (⟨#[]⟩ : ByteArray)) := (blk_cell BK171.out 1).trans rfl; have hfz8_0 := blk_frozen BK171.out 0; have hfz8_1 := blk_frozen BK171.out 1))
  (try simp only [Act.put, List.setIfInBounds_toArray, List.set_cons_zero, List.set_cons_succ])
  go_cut [31] (fun v31 wc => ∃ (kq : Nat) (x31_3 : Bool), v31 = .bool x31_3 ∧ Aside0 (spec_ReadPin.j0 kq a0 l1 a2 x31_3 1 (⟨#[]⟩ : ByteArray) = some (r1, r2)) ∧ Aside0 (kq ≤ k) ∧ Aside0 (wc.heap[gb170]? = some (.cells #[.int .i64 0, .string (⟨#[]⟩ : ByteArray)] 31 (0, 0))) ∧ Aside0 (wc.heap[gb171]? = some (.cells #[.int .i64 1, .string (⟨#[]⟩ : ByteArray)] 31 (0, 0))) ∧ Aside0 (Below w.heap.size w wc))
  case first =>
    have H := HC4.out
    clear HC4
    by_cases c9 : a0 = 0
    · rw [if_pos c9] at H
      have c9b0 : (a0 == 0) = true := beq_iff_eq.mpr c9
      have c9b1 : (a0 != 0) = false := bne_eq_false_iff_eq.mpr c9
      clear c9
      (first | rw [c9b0] | (simp only [i64_w, i32_w]; rw [c9b0]) | skip)
      replace H := Option.bind_eq_some_iff.mp H
      obtain ⟨t172, A100, H⟩ := H
      replace H : (if t172 = true then (spec_ReadPin.j0 k a0 l1 a2 ((l1.length : Int) != 8) 1 (⟨#[]⟩ : ByteArray)) else (spec_ReadPin.j0 k a0 l1 a2 true 1 (⟨#[]⟩ : ByteArray))) = some (r1, r2) := H
      have A10 := Aside0.mk A100
      clear A100
      by_cases c11 : t172 = true
      · subst c11
        have H1 : (spec_ReadPin.j0 k a0 l1 a2 ((l1.length : Int) != 8) 1 (⟨#[]⟩ : ByteArray)) = some (r1, r2) := by rw [if_pos rfl] at H; exact H
        clear H
        have H := H1
        clear H1
        have H' := Aside0.mk H
        clear H
        go_wp2_with (first | (go_at_call 44; (with_reducible refine (spec_l4GoodPan.calls k a2 true _ A10.out).mono ?_); rintro e w' ⟨rfl, ⟨nd, rfl⟩⟩))
        go_meet
        case rel => exact ⟨_, (((l1.length : Int) != 8)), (by first | rfl | (simp; done) | (simp [*]; done)), H', ⟨by first | omega | exact Nat.le_refl _⟩, ⟨by (with_reducible repeat (first | refine blk_drewN ?_ _ | refine blk_drew ?_ | refine blk_alloc ?_ _)); refine blk_far ?_ NB170_171.out _; (with_reducible repeat (first | refine blk_drewN ?_ _ | refine blk_drew ?_ | refine blk_alloc ?_ _)); refine blk_far ?_ NB170_171.out _; (with_reducible repeat (first | refine blk_drewN ?_ _ | refine blk_drew ?_ | refine blk_alloc ?_ _)); exact BK170.out⟩, ⟨by (with_reducible repeat (first | refine blk_drewN ?_ _ | refine blk_drew ?_ | refine blk_alloc ?_ _)); refine blk_put (cs := #[.int .i64 1, .string (⟨#[]⟩ : ByteArray)]) ?_ 1 _ rfl; (with_reducible repeat (first | refine blk_drewN ?_ _ | refine blk_drew ?_ | refine blk_alloc ?_ _)); refine blk_put (cs := #[.int .i64 0, .string (⟨#[]⟩ : ByteArray)]) ?_ 0 _ rfl; (with_reducible repeat (first | refine blk_drewN ?_ _ | refine blk_drew ?_ | refine blk_alloc ?_ _)); exact BK171.out⟩, ⟨by repeat (first | (with_reducible first | exact HB.out | apply below_alloc | apply pw_below_drewN | apply below_drew1 | refine below_set ?_ GE170.out | refine below_set ?_ GE171.out) | exact HB.out)⟩⟩
      · replace c11 := Bool.eq_false_iff.mpr c11
        subst c11
        have H1 : (spec_ReadPin.j0 k a0 l1 a2 true 1 (⟨#[]⟩ : ByteArray)) = some (r1, r2) := by rw [if_neg (show ¬ (false = true) by decide)] at H; exact H
        clear H
        have H := H1
        clear H1
        have H' := Aside0.mk H
        clear H
        go_wp2_with (first | (go_at_call 44; (with_reducible refine (spec_l4GoodPan.calls k a2 false _ A10.out).mono ?_); rintro e w' ⟨rfl, ⟨nd, rfl⟩⟩))
        go_meet
        case rel => exact ⟨_, (true), (by first | rfl | (simp; done) | (simp [*]; done)), H', ⟨by first | omega | exact Nat.le_refl _⟩, ⟨by (with_reducible repeat (first | refine blk_drewN ?_ _ | refine blk_drew ?_ | refine blk_alloc ?_ _)); refine blk_far ?_ NB170_171.out _; (with_reducible repeat (first | refine blk_drewN ?_ _ | refine blk_drew ?_ | refine blk_alloc ?_ _)); refine blk_far ?_ NB170_171.out _; (with_reducible repeat (first | refine blk_drewN ?_ _ | refine blk_drew ?_ | refine blk_alloc ?_ _)); exact BK170.out⟩, ⟨by (with_reducible repeat (first | refine blk_drewN ?_ _ | refine blk_drew ?_ | refine blk_alloc ?_ _)); refine blk_put (cs := #[.int .i64 1, .string (⟨#[]⟩ : ByteArray)]) ?_ 1 _ rfl; (with_reducible repeat (first | refine blk_drewN ?_ _ | refine blk_drew ?_ | refine blk_alloc ?_ _)); refine blk_put (cs := #[.int .i64 0, .string (⟨#[]⟩ : ByteArray)]) ?_ 0 _ rfl; (with_reducible repeat (first | refine blk_drewN ?_ _ | refine blk_drew ?_ | refine blk_alloc ?_ _)); exact BK171.out⟩, ⟨by repeat (first | (with_reducible first | exact HB.out | apply below_alloc | apply pw_below_drewN | apply below_drew1 | refine below_set ?_ GE170.out | refine below_set ?_ GE171.out) | exact HB.out)⟩⟩
    · rw [if_neg c9] at H
      have c9b0 : (a0 == 0) = false := beq_eq_false_iff_ne.mpr c9
      have c9b1 : (a0 != 0) = true := bne_iff_ne.mpr c9
      (first | rw [c9b0] | (simp only [i64_w, i32_w]; rw [c9b0]) | skip)
      by_cases c12 : a0 = 3
      · rw [if_pos c12] at H
        have c12b0 : (a0 == 3) = true := beq_iff_eq.mpr c12
        have c12b1 : (a0 != 3) = false := bne_eq_false_iff_eq.mpr c12
        clear c12
        replace H := Option.bind_eq_some_iff.mp H
        obtain ⟨t173, A130, H⟩ := H
        replace H : (if t173 = true then (spec_ReadPin.j0 k a0 l1 a2 ((l1.length : Int) != 8) 1 (⟨#[]⟩ : ByteArray)) else (spec_ReadPin.j0 k a0 l1 a2 true 1 (⟨#[]⟩ : ByteArray))) = some (r1, r2) := H
        have A13 := Aside0.mk A130
        clear A130
        by_cases c14 : t173 = true
        · subst c14
          have H1 : (spec_ReadPin.j0 k a0 l1 a2 ((l1.length : Int) != 8) 1 (⟨#[]⟩ : ByteArray)) = some (r1, r2) := by rw [if_pos rfl] at H; exact H
          clear H
          have H := H1
          clear H1
          have H' := Aside0.mk H
          clear H
          go_wp2_with (first | (go_at_call 44; (with_reducible refine (spec_l4GoodPan.calls k a2 true _ A13.out).mono ?_); rintro e w' ⟨rfl, ⟨nd, rfl⟩⟩))
          go_meet
          case rel => exact ⟨_, (((l1.length : Int) != 8)), (by first | rfl | (simp; done) | (simp [*]; done)), H', ⟨by first | omega | exact Nat.le_refl _⟩, ⟨by (with_reducible repeat (first | refine blk_drewN ?_ _ | refine blk_drew ?_ | refine blk_alloc ?_ _)); refine blk_far ?_ NB170_171.out _; (with_reducible repeat (first | refine blk_drewN ?_ _ | refine blk_drew ?_ | refine blk_alloc ?_ _)); refine blk_far ?_ NB170_171.out _; (with_reducible repeat (first | refine blk_drewN ?_ _ | refine blk_drew ?_ | refine blk_alloc ?_ _)); exact BK170.out⟩, ⟨by (with_reducible repeat (first | refine blk_drewN ?_ _ | refine blk_drew ?_ | refine blk_alloc ?_ _)); refine blk_put (cs := #[.int .i64 1, .string (⟨#[]⟩ : ByteArray)]) ?_ 1 _ rfl; (with_reducible repeat (first | refine blk_drewN ?_ _ | refine blk_drew ?_ | refine blk_alloc ?_ _)); refine blk_put (cs := #[.int .i64 0, .string (⟨#[]⟩ : ByteArray)]) ?_ 0 _ rfl; (with_reducible repeat (first | refine blk_drewN ?_ _ | refine blk_drew ?_ | refine blk_alloc ?_ _)); exact BK171.out⟩, ⟨by repeat (first | (with_reducible first | exact HB.out | apply below_alloc | apply pw_below_drewN | apply below_drew1 | refine below_set ?_ GE170.out | refine below_set ?_ GE171.out) | exact HB.out)⟩⟩
        · replace c14 := Bool.eq_false_iff.mpr c14
          subst c14
          have H1 : (spec_ReadPin.j0 k a0 l1 a2 true 1 (⟨#[]⟩ : ByteArray)) = some (r1, r2) := by rw [if_neg (show ¬ (false = true) by decide)] at H; exact H
          clear H
          have H := H1
          clear H1
          have H' := Aside0.mk H
          clear H
          go_wp2_with (first | (go_at_call 44; (with_reducible refine (spec_l4GoodPan.calls k a2 false _ A13.out).mono ?_); rintro e w' ⟨rfl, ⟨nd, rfl⟩⟩))
          go_meet
          case rel => exact ⟨_, (true), (by first | rfl | (simp; done) | (simp [*]; done)), H', ⟨by first | omega | exact Nat.le_refl _⟩, ⟨by (with_reducible repeat (first | refine blk_drewN ?_ _ | refine blk_drew ?_ | refine blk_alloc ?_ _)); refine blk_far ?_ NB170_171.out _; (with_reducible repeat (first | refine blk_drewN ?_ _ | refine blk_drew ?_ | refine blk_alloc ?_ _)); refine blk_far ?_ NB170_171.out _; (with_reducible repeat (first | refine blk_drewN ?_ _ | refine blk_drew ?_ | refine blk_alloc ?_ _)); exact BK170.out⟩, ⟨by (with_reducible repeat (first | refine blk_drewN ?_ _ | refine blk_drew ?_ | refine blk_alloc ?_ _)); refine blk_put (cs := #[.int .i64 1, .string (⟨#[]⟩ : ByteArray)]) ?_ 1 _ rfl; (with_reducible repeat (first | refine blk_drewN ?_ _ | refine blk_drew ?_ | refine blk_alloc ?_ _)); refine blk_put (cs := #[.int .i64 0, .string (⟨#[]⟩ : ByteArray)]) ?_ 0 _ rfl; (with_reducible repeat (first | refine blk_drewN ?_ _ | refine blk_drew ?_ | refine blk_alloc ?_ _)); exact BK171.out⟩, ⟨by repeat (first | (with_reducible first | exact HB.out | apply below_alloc | apply pw_below_drewN | apply below_drew1 | refine below_set ?_ GE170.out | refine below_set ?_ GE171.out) | exact HB.out)⟩⟩
      · rw [if_neg c12] at H
        have c12b0 : (a0 == 3) = false := beq_eq_false_iff_ne.mpr c12
        have c12b1 : (a0 != 3) = true := bne_iff_ne.mpr c12
        have H' := Aside0.mk H
        clear H
        go_wp2
        go_meet
        case rel => exact ⟨_, (true), (by first | rfl | (simp; done) | (simp [*]; done)), H', ⟨by first | omega | exact Nat.le_refl _⟩, ⟨by (with_reducible repeat (first | refine blk_drewN ?_ _ | refine blk_drew ?_ | refine blk_alloc ?_ _)); refine blk_far ?_ NB170_171.out _; (with_reducible repeat (first | refine blk_drewN ?_ _ | refine blk_drew ?_ | refine blk_alloc ?_ _)); refine blk_far ?_ NB170_171.out _; (with_reducible repeat (first | refine blk_drewN ?_ _ | refine blk_drew ?_ | refine blk_alloc ?_ _)); exact BK170.out⟩, ⟨by (with_reducible repeat (first | refine blk_drewN ?_ _ | refine blk_drew ?_ | refine blk_alloc ?_ _)); refine blk_put (cs := #[.int .i64 1, .string (⟨#[]⟩ : ByteArray)]) ?_ 1 _ rfl; (with_reducible repeat (first | refine blk_drewN ?_ _ | refine blk_drew ?_ | refine blk_alloc ?_ _)); refine blk_put (cs := #[.int .i64 0, .string (⟨#[]⟩ : ByteArray)]) ?_ 0 _ rfl; (with_reducible repeat (first | refine blk_drewN ?_ _ | refine blk_drew ?_ | refine blk_alloc ?_ _)); exact BK171.out⟩, ⟨by repeat (first | (with_reducible first | exact HB.out | apply below_alloc | apply pw_below_drewN | apply below_drew1 | refine below_set ?_ GE170.out | refine below_set ?_ GE171.out) | exact HB.out)⟩⟩
  case rest =>
    clear HC4
    try clear c1
    try clear p2
    try clear c7
    try clear c9
    try clear c9b0
    try clear c9b1
    try clear c11
    try clear c12
    try clear c12b0
    try clear c12b1
    try clear c14
    try clear hcz8_0
    try clear hcz8_1
    try clear hfz8_0
    try clear hfz8_1
    obtain ⟨kq, x31_3, rfl, HA, HJ3, BK170, BK171, HB⟩ := hcut
    cases kq with
    | zero => exact absurd HA.out (by simp [spec_ReadPin.j0])
    | succ kj3 =>
      have H := HA.out
      clear HA
      simp only [spec_ReadPin.j0] at H
      by_cases c15 : x31_3 = true
      · subst c15
        have H1 : (some (1, (⟨#[]⟩ : ByteArray))) = some (r1, r2) := by rw [if_pos rfl] at H; exact H
        clear H
        have H := H1
        clear H1
        simp only [Option.some.injEq, Prod.mk.injEq] at H
        obtain ⟨rfl, rfl⟩ := H
        have hnb16 := NB171_170.out
        have hnc16 := NB170_171.out
        have hcz17_0 : wc.cell? ⟨gb171, 0, none⟩ = some (.int .i64 1) := (blk_cell BK171.out 0).trans rfl
        have hcz17_1 : wc.cell? ⟨gb171, 1, none⟩ = some (.string (⟨#[]⟩ : ByteArray)) := (blk_cell BK171.out 1).trans rfl
        have hfz17_0 := blk_frozen BK171.out 0
        have hfz17_1 := blk_frozen BK171.out 1
        have hcz18_0 : wc.cell? ⟨gb170, 0, none⟩ = some (.int .i64 0) := (blk_cell BK170.out 0).trans rfl
        have hcz18_1 : wc.cell? ⟨gb170, 1, none⟩ = some (.string (⟨#[]⟩ : ByteArray)) := (blk_cell BK170.out 1).trans rfl
        have hfz18_0 := blk_frozen BK170.out 0
        have hfz18_1 := blk_frozen BK170.out 1
        go_wp2
        refine bodyPost_ret (results_cell_row rfl _ _ gb170 31 #[.int .i64 1, .string (⟨#[]⟩ : ByteArray)] (0, 0) _ rfl (by (with_reducible repeat (first | refine blk_drewN ?_ _ | refine blk_drew ?_ | refine blk_alloc ?_ _)); refine blk_put (cs := #[.int .i64 1, .string (⟨#[]⟩ : ByteArray)]) ?_ 1 _ rfl; (with_reducible repeat (first | refine blk_drewN ?_ _ | refine blk_drew ?_ | refine blk_alloc ?_ _)); refine blk_put (cs := #[.int .i64 0, .string (⟨#[]⟩ : ByteArray)]) ?_ 0 _ rfl; (with_reducible repeat (first | refine blk_drewN ?_ _ | refine blk_drew ?_ | refine blk_alloc ?_ _)); exact BK170.out) Try.underlying31 rfl (by kernel_rfl)) rfl ?_
        exact ⟨by first | rfl | (simp [errW_none, errW_some] <;> rfl) | (simp [*, errW_none, errW_some] <;> rfl), by repeat (first | (with_reducible first | exact HB.out | apply below_alloc | apply pw_below_drewN | apply below_drew1 | refine below_set ?_ GE170.out | refine below_set ?_ GE171.out) | exact HB.out)⟩
      · replace c15 := Bool.eq_false_iff.mpr c15
        subst c15
        have H1 : (spec_ReadPin.l0 kj3 a0 a2 ([] : List Int) l1 (l1.length : Int) 0 1 (⟨#[]⟩ : ByteArray)) = some (r1, r2) := by rw [if_neg (show ¬ (false = true) by decide)] at H; exact H
        clear H
        have H := H1
        clear H1
        have H' := Aside0.mk H
        clear H
        go_wp2
        go_loopg [8, 35] kj3 (fun kq v8 v35 w' => ∃ (x8_2 : List Int) (x35_2 : Int), v35 = .int .i64 x35_2 ∧ Aside0 (spec_ReadPin.l0 kq a0 a2 x8_2 l1 (l1.length : Int) x35_2 1 (⟨#[]⟩ : ByteArray) = some (r1, r2)) ∧ Aside0 (kq ≤ kj3) ∧ Aside0 (Kd.R (Kd.int .u8) 5 w' w.heap.size (fun _ => True) v8 x8_2) ∧ Aside0 (w'.heap[gb170]? = some (.cells #[.int .i64 0, .string (⟨#[]⟩ : ByteArray)] 31 (0, 0))) ∧ Aside0 (w'.heap[gb171]? = some (.cells #[.int .i64 1, .string (⟨#[]⟩ : ByteArray)] 31 (0, 0))) ∧ Aside0 (Below w.heap.size w w'))
        case atStart => exact ⟨(([] : List Int)), (0), (by first | rfl | (simp; done) | (simp [*]; done)), H', ⟨Nat.le_refl _⟩, ⟨by first | exact Kd.R_nil _ _ _ _ _ | exact Kd.N_nil _ _ _ _ _ | exact Kd.V_nil _ _ _ _ _ | exact Kd.Q_nil _ _ _ _ _ | exact Kd.S_nil _ _ _ _ _⟩, ⟨by (with_reducible repeat (first | refine blk_drewN ?_ _ | refine blk_drew ?_ | refine blk_alloc ?_ _)); exact BK170.out⟩, ⟨by (with_reducible repeat (first | refine blk_drewN ?_ _ | refine blk_drew ?_ | refine blk_alloc ?_ _)); exact BK171.out⟩, ⟨by repeat (first | (with_reducible first | exact HB.out | apply below_alloc | apply pw_below_drewN | apply below_drew1 | refine below_set ?_ GE170.out | refine below_set ?_ GE171.out) | exact HB.out)⟩⟩
        case round =>
          clear H'
          try clear c1
          try clear p2
          try clear c7
          try clear c9
          try clear c9b0
          try clear c9b1
          try clear c11
          try clear c12
          try clear c12b0
          try clear c12b1
          try clear c14
          try clear c15
          try clear c16
          try clear hcz17_0
          try clear hcz17_1
          try clear hcz18_0
          try clear hcz18_1
          try clear hcz8_0
          try clear hcz8_1
          try clear hfz17_0
          try clear hfz17_1
          try clear hfz18_0
          try clear hfz18_1
          try clear hfz8_0
          try clear hfz8_1
          try clear p2
          obtain ⟨x8_2, x35_2, rfl, HA, HK2, HO_8, BK170, BK171, HB⟩ := hrel
          cases gk with
          | zero => exact absurd HA.out (by simp [spec_ReadPin.l0])
          | succ k2 =>
            have H := HA.out
            clear HA
            simp only [spec_ReadPin.l0] at H
            by_cases c19 : x35_2 < (l1.length : Int)
            · rw [if_pos c19] at H
              have c19b0 : decide (x35_2 < (l1.length : Int)) = true := decide_eq_true c19
              clear c19
              by_cases c20 : 0 ≤ x35_2
              · rw [if_pos c20] at H
                have c20b0 : decide (0 ≤ x35_2) = true := decide_eq_true c20
                clear c20
                by_cases c21 : x35_2 < (l1.length : Int)
                · rw [if_pos c21] at H
                  have c21b0 : decide (x35_2 < (l1.length : Int)) = true := decide_eq_true c21
                  clear c21
                  obtain ⟨y175, hy175⟩ : ∃ y_ : List Int, y_ = (([(rd l1 x35_2) / 16, Go.bits .and .u8 (rd l1 x35_2) 15] : List Int)) := ⟨_, rfl⟩
                  replace H : (if x8_2.length + y175.length < 140737488355328 then (spec_ReadPin.l0 k2 a0 a2 (x8_2 ++ y175) l1 (l1.length : Int) (wrap64 (x35_2 + 1)) 1 (⟨#[]⟩ : ByteArray)) else (none)) = some (r1, r2) := by first | (rw [hy175]; with_reducible exact H) | (have H2_ := (Option.bind_some _ _).symm.trans H; rw [hy175]; with_reducible exact H2_) | (have H2_ := (Option.bind_some _ _).symm.trans H; with_reducible exact H2_) | with_reducible exact H | (rw [hy175]; exact H) | exact H
                  have Ny175 := Aside0.mk hy175
                  clear hy175
                  by_cases c22 : x8_2.length + y175.length < 140737488355328
                  · rw [if_pos c22] at H
                    have LMc22 := Aside0.mk c22
                    clear c22
                    obtain ⟨y178, hy178⟩ : ∃ y_ : List Int, y_ = (x8_2 ++ y175) := ⟨_, rfl⟩
                    replace H : (spec_ReadPin.l0 k2 a0 a2 y178 l1 (l1.length : Int) (wrap64 (x35_2 + 1)) 1 (⟨#[]⟩ : ByteArray)) = some (r1, r2) := by first | (rw [hy178]; with_reducible exact H) | (have H2_ := (Option.bind_some _ _).symm.trans H; rw [hy178]; with_reducible exact H2_) | (have H2_ := (Option.bind_some _ _).symm.trans H; with_reducible exact H2_) | with_reducible exact H | (rw [hy178]; exact H) | exact H
                    have Ny178 := Aside0.mk hy178
                    clear hy178
                    have H' := Aside0.mk H
                    clear H
                    have p174 : 0 ≤ (x35_2 : Int) := of_decide_eq_true (by first | (with_reducible assumption) | assumption)
                    have q174 : x35_2 < (l1.length : Int) := of_decide_eq_true (by first | (with_reducible assumption) | assumption)
                    obtain ⟨ad174, e174, hx174_0⟩ := Kd.at_int HR1.out x35_2 p174 q174
                    cases e174
                    replace hx174_0 := (HB.out.cell (World.block_lt_of_cell? w _ hx174_0)).trans hx174_0
                    replace p174 := eq_true p174
                    replace q174 := eq_true q174
                    go_wp2_with (first | ((with_reducible refine gate_dst (N := 44) rfl ?_); (try (refine gate_guard (by rfl) ?_; dsimp only)); refine Kd.R_lit (Kd.int .u8) _ 5 ?hg (N := 44) ?hd (xs := ([(rd l1 x35_2) / 16, Go.bits .and .u8 (rd l1 x35_2) 15] : List Int)) (inner := [.int .u8 ((rd l1 x35_2) / 16), .int .u8 (Go.bits .and .u8 (rd l1 x35_2) 15)]) (ok := fun _ => True) (okp := fun _ => True) ?hr ?hp (fun _ hk => hk) trivial (Below.refl _ _) (Nat.le_refl _) (by simp) ?_; (case hd => rfl); (case hg => rfl); (case hr => first | (go_simp; done) | (go_simp; rfl)); (case hp => exact (Reps.one (show Kd.M (Kd.int .u8) _ _ _ ((rd l1 x35_2) / 16) [.int .u8 ((rd l1 x35_2) / 16)] from rfl) (Reps.one (show Kd.M (Kd.int .u8) _ _ _ (Go.bits .and .u8 (rd l1 x35_2) 15) [.int .u8 (Go.bits .and .u8 (rd l1 x35_2) 15)] from rfl) (Reps.none _ _)))); intro v176 w23 ho24 hb hg_ hnew_; clear hg_ hnew_; (first | rw [← Ny175.out] at ho24 | (simp only [Int.reduceToNat] at ho24; rw [← Ny175.out] at ho24)); have n0_ := Aside0.mk (Kd.R_elder' (by (with_reducible repeat (first | apply Kd.R_alloc | apply Kd.R_drewN | apply Kd.R_drew)); exact HO_8.out) (Kd.R_base ho24) hb); have n1_ := Aside0.mk (Kd.R_lower (Kd.R_new' ho24 (Kd.R_lt (by (with_reducible repeat (first | apply Kd.R_alloc | apply Kd.R_drewN | apply Kd.R_drew)); exact HO_8.out))) (below_size (by repeat (first | (with_reducible first | exact HB.out | apply below_alloc | apply pw_below_drewN | apply below_drew1 | refine below_set ?_ GE170.out | refine below_set ?_ GE171.out) | exact HB.out)))); have n2_ := Aside0.mk (blk_below (g := gb170) (o := .cells #[.int .i64 0, .string (⟨#[]⟩ : ByteArray)] 31 (0, 0)) (by (with_reducible repeat (first | refine blk_drewN ?_ _ | refine blk_drew ?_ | refine blk_alloc ?_ _)); exact BK170.out) hb); have n3_ := Aside0.mk (blk_below (g := gb171) (o := .cells #[.int .i64 1, .string (⟨#[]⟩ : ByteArray)] 31 (0, 0)) (by (with_reducible repeat (first | refine blk_drewN ?_ _ | refine blk_drew ?_ | refine blk_alloc ?_ _)); exact BK171.out) hb); have n4_ := Aside0.mk (below_step (by repeat (first | (with_reducible first | exact HB.out | apply below_alloc | apply pw_below_drewN | apply below_drew1 | refine below_set ?_ GE170.out | refine below_set ?_ GE171.out) | exact HB.out)) hb); clear HO_8; clear BK170; clear BK171; clear HB; have HO_8 := n0_; have HO177 := n1_; have BK170 := n2_; have BK171 := n3_; have HB := n4_; clear n0_ n1_ n2_ n3_ n4_; clear hb ho24; obtain ⟨Ao26, co26, eo26⟩ := Kd.R_slice HO177.out; subst eo26) | ((with_reducible refine gate_builtin (b := .append) (xs := #[.tmp 39, .tmp 44]) rfl ?_); (try (refine gate_guard (by rfl) ?_; dsimp only)); at_builtin; refine Kd.R_append_rows (Kd.int .u8) (w0 := w) w.heap.size rfl (.tmp 39) (.tmp 44) 29 5 (.int .u8 0) 1 rfl Try.underlying29 info5 rfl (by decide) (by omega) u8 x8_2 y175 _ _ _ (fun k_ => some k_ ≠ (.slice Ao26 y175.length co26 : Value).ownBlock) (fun _ => False) rfl rfl ?aO ?aR (fun _ _ h => h) (fun _ h => h.elim) ?aF ?aB ?aS ?aL ?_; (case aR => repeat (first | exact (Kd.R_reads' HO177.out).2.2 | (with_reducible refine Kd.C_alloc ?_ _) | (with_reducible refine Kd.C_drewN ?_ _) | (with_reducible refine Kd.C_drew ?_))); (case aB => exact (by repeat (first | (with_reducible first | exact HB.out | apply below_alloc | apply pw_below_drewN | apply below_drew1 | refine below_set ?_ GE170.out | refine below_set ?_ GE171.out) | exact HB.out))); (case aF => exact (fun k_ hk => Kd.fresh' (Kd.R_lt (by (with_reducible repeat (first | apply Kd.R_alloc | apply Kd.R_drewN | apply Kd.R_drew)); exact HO177.out)) k_ hk)); (case aO => exact (by (with_reducible repeat (first | apply Kd.R_alloc | apply Kd.R_drewN | apply Kd.R_drew)); exact Kd.R_mono HO_8.out (fun _ hk => hk.2))); (case aS => exact (below_size (by repeat (first | (with_reducible first | exact HB.out | apply below_alloc | apply pw_below_drewN | apply below_drew1 | refine below_set ?_ GE170.out | refine below_set ?_ GE171.out) | exact HB.out)))); (case aL => have := LMc22.out; omega); intro v179 w25 ho hb hg hat; rw [← Ny178.out] at ho; have n0_ := Aside0.mk (blk_grown (g := gb170) (o := .cells #[.int .i64 0, .string (⟨#[]⟩ : ByteArray)] 31 (0, 0)) (by (with_reducible repeat (first | refine blk_drewN ?_ _ | refine blk_drew ?_ | refine blk_alloc ?_ _)); exact BK170.out) hg (Kd.R_ne HO_8.out BK170.out (by decide))); have n1_ := Aside0.mk (blk_grown (g := gb171) (o := .cells #[.int .i64 1, .string (⟨#[]⟩ : ByteArray)] 31 (0, 0)) (by (with_reducible repeat (first | refine blk_drewN ?_ _ | refine blk_drew ?_ | refine blk_alloc ?_ _)); exact BK171.out) hg (Kd.R_ne HO_8.out BK171.out (by decide))); have n2_ := Aside0.mk (Kd.R_after (ok := (fun _ => True)) (by (with_reducible repeat (first | apply Kd.R_alloc | apply Kd.R_drewN | apply Kd.R_drew)); exact HO177.out) hg hat); have n3_ := Aside0.mk (hb); have n4_ := Aside0.mk (ho); clear BK170; clear BK171; clear HO177; clear HB; clear HO_8; have BK170 := n0_; have BK171 := n1_; have HO177 := n2_; have HB := n3_; have HO180 := n4_; clear n0_ n1_ n2_ n3_ n4_; clear ho hb hg hat))
                    go_roundg k2
                    case measure => have := HJ3.out; have := HK2.out; omega
                    case rel => exact ⟨(y178), (wrap64 (x35_2 + 1)), (by first | rfl | (simp; done) | (simp [*]; done)), H', ⟨by have := HJ3.out; have := HK2.out; omega⟩, ⟨by (with_reducible repeat (first | apply Kd.R_alloc | apply Kd.R_drewN | apply Kd.R_drew)); exact Kd.R_mono HO180.out (fun _ hk => trivial)⟩, ⟨by (with_reducible repeat (first | refine blk_drewN ?_ _ | refine blk_drew ?_ | refine blk_alloc ?_ _)); exact BK170.out⟩, ⟨by (with_reducible repeat (first | refine blk_drewN ?_ _ | refine blk_drew ?_ | refine blk_alloc ?_ _)); exact BK171.out⟩, ⟨by repeat (first | (with_reducible first | exact HB.out | apply below_alloc | apply pw_below_drewN | apply below_drew1 | refine below_set ?_ GE170.out | refine below_set ?_ GE171.out) | exact HB.out)⟩⟩
                  · rw [if_neg c22] at H
                    exact absurd H (by simp)
                · rw [if_neg c21] at H
                  exact absurd H (by simp)
              · rw [if_neg c20] at H
                exact absurd H (by simp)
            · rw [if_neg c19] at H
              have c19b0 : decide (x35_2 < (l1.length : Int)) = false := decide_eq_false c19
              clear c19
              replace H := Option.bind_eq_some_iff.mp H
              obtain ⟨t181, A270, H⟩ := H
              replace H : ((spec_l1Xor.f k2 x8_2 t181).bind fun t184 => (if 1 < (t184.length : Int) then (if 0 < (t184.length : Int) then (if (wrap64 (rd t184 0)) = a0 then (if (wrap64 (rd t184 1)) < 4 then (spec_ReadPin.j2 k2 a0 t184 (wrap64 (rd t184 1)) true 1 (⟨#[]⟩ : ByteArray)) else (spec_ReadPin.j2 k2 a0 t184 (wrap64 (rd t184 1)) (decide ((wrap64 (rd t184 1)) > 12)) 1 (⟨#[]⟩ : ByteArray))) else (spec_ReadPin.j2 k2 a0 t184 (wrap64 (rd t184 1)) true 1 (⟨#[]⟩ : ByteArray))) else (none)) else (none))) = some (r1, r2) := H
              have A27 := Aside0.mk A270
              clear A270
              replace H := Option.bind_eq_some_iff.mp H
              obtain ⟨t184, A280, H⟩ := H
              replace H : (if 1 < (t184.length : Int) then (if 0 < (t184.length : Int) then (if (wrap64 (rd t184 0)) = a0 then (if (wrap64 (rd t184 1)) < 4 then (spec_ReadPin.j2 k2 a0 t184 (wrap64 (rd t184 1)) true 1 (⟨#[]⟩ : ByteArray)) else (spec_ReadPin.j2 k2 a0 t184 (wrap64 (rd t184 1)) (decide ((wrap64 (rd t184 1)) > 12)) 1 (⟨#[]⟩ : ByteArray))) else (spec_ReadPin.j2 k2 a0 t184 (wrap64 (rd t184 1)) true 1 (⟨#[]⟩ : ByteArray))) else (none)) else (none)) = some (r1, r2) := H
              have A28 := Aside0.mk A280
              clear A280
              by_cases c29 : 1 < (t184.length : Int)
              · rw [if_pos c29] at H
                have c29b0 : decide (1 < (t184.length : Int)) = true := decide_eq_true c29
                have c29b1 : decide (1 < t184.length) = true := decide_eq_true (by omega)
                clear c29
                have HC30 := Aside0.mk H
                clear H
                go_upto_region 12 with (first | ((with_reducible refine gate_callee (f := 46) rfl ?_); refine goesL_ (some 49) rfl rfl Try.func46 (by kernel_rfl) rfl #[.string a2] rfl (by (try simp only [List.map_toArray, List.map_cons, List.map_nil]); first | done | rfl | (simp only [List.length_drop, List.length_take]; rfl)) ?_; (with_reducible refine (spec_l4Account.calls a2 t181 _ A27.out).mono ?_); rintro e w31 ⟨v182, rfl, ho0, hb⟩; refine ⟨_, rfl, ?_⟩; have n0_ := Aside0.mk (Kd.R_elder' (by (with_reducible repeat (first | apply Kd.R_alloc | apply Kd.R_drewN | apply Kd.R_drew)); exact HO_8.out) (Kd.R_base ho0) hb); have n1_ := Aside0.mk (Kd.R_lower (Kd.R_new' ho0 (Kd.R_lt (by (with_reducible repeat (first | apply Kd.R_alloc | apply Kd.R_drewN | apply Kd.R_drew)); exact HO_8.out))) (below_size (by repeat (first | (with_reducible first | exact HB.out | apply below_alloc | apply pw_below_drewN | apply below_drew1 | refine below_set ?_ GE170.out | refine below_set ?_ GE171.out) | exact HB.out)))); have n2_ := Aside0.mk (blk_below (g := gb170) (o := .cells #[.int .i64 0, .string (⟨#[]⟩ : ByteArray)] 31 (0, 0)) (by (with_reducible repeat (first | refine blk_drewN ?_ _ | refine blk_drew ?_ | refine blk_alloc ?_ _)); exact BK170.out) hb); have n3_ := Aside0.mk (blk_below (g := gb171) (o := .cells #[.int .i64 1, .string (⟨#[]⟩ : ByteArray)] 31 (0, 0)) (by (with_reducible repeat (first | refine blk_drewN ?_ _ | refine blk_drew ?_ | refine blk_alloc ?_ _)); exact BK171.out) hb); have n4_ := Aside0.mk (below_step (by repeat (first | (with_reducible first | exact HB.out | apply below_alloc | apply pw_below_drewN | apply below_drew1 | refine below_set ?_ GE170.out | refine below_set ?_ GE171.out) | exact HB.out)) hb); clear HO_8; clear BK170; clear BK171; clear HB; have HO_8 := n0_; have HO183 := n1_; have BK170 := n2_; have BK171 := n3_; have HB := n4_; clear n0_ n1_ n2_ n3_ n4_; (try clear hb); (try clear hb2); (try clear hk); (try clear hi); (try clear ho0); obtain ⟨Ao32, co32, eo32⟩ := Kd.R_slice HO_8.out; subst eo32; obtain ⟨Ao33, co33, eo33⟩ := Kd.R_slice HO183.out; subst eo33) | ((with_reducible refine gate_callee (f := 45) rfl ?_); refine goesL_ (some 50) rfl rfl Try.func45 (by kernel_rfl) rfl #[.slice Ao32 x8_2.length co32, .slice Ao33 t181.length co33] rfl (by (try simp only [List.map_toArray, List.map_cons, List.map_nil]); first | done | rfl | (simp only [List.length_drop, List.length_take]; rfl)) ?_; (with_reducible refine (spec_l1Xor.calls k2 _ _ x8_2 _ _ t181 t184 _ ?side1 ?side2 ?side3 ?side4 A28.out).mono ?_); (case side1 => repeat (first | exact (Kd.R_reads' HO_8.out).2.2 | (with_reducible refine Kd.C_alloc ?_ _) | (with_reducible refine Kd.C_drewN ?_ _) | (with_reducible refine Kd.C_drew ?_))); (case side2 => exact (Kd.R_reads' HO_8.out).2.1); (case side3 => repeat (first | exact (Kd.R_reads' HO183.out).2.2 | (with_reducible refine Kd.C_alloc ?_ _) | (with_reducible refine Kd.C_drewN ?_ _) | (with_reducible refine Kd.C_drew ?_))); (case side4 => exact (Kd.R_reads' HO183.out).2.1); rintro e w34 ⟨v185, rfl, ho0, hb⟩; refine ⟨_, rfl, ?_⟩; have n0_ := Aside0.mk (Kd.R_elder' (by (with_reducible repeat (first | apply Kd.R_alloc | apply Kd.R_drewN | apply Kd.R_drew)); exact HO_8.out) (Kd.R_base ho0) hb); have n1_ := Aside0.mk (Kd.R_elder' (by (with_reducible repeat (first | apply Kd.R_alloc | apply Kd.R_drewN | apply Kd.R_drew)); exact HO183.out) (Kd.R_base ho0) hb); have n2_ := Aside0.mk (Kd.R_lower (Kd.R_new' (Kd.R_new' ho0 (Kd.R_lt (by (with_reducible repeat (first | apply Kd.R_alloc | apply Kd.R_drewN | apply Kd.R_drew)); exact HO_8.out))) (Kd.R_lt (by (with_reducible repeat (first | apply Kd.R_alloc | apply Kd.R_drewN | apply Kd.R_drew)); exact HO183.out))) (below_size (by repeat (first | (with_reducible first | exact HB.out | apply below_alloc | apply pw_below_drewN | apply below_drew1 | refine below_set ?_ GE170.out | refine below_set ?_ GE171.out) | exact HB.out)))); have n3_ := Aside0.mk (blk_below (g := gb170) (o := .cells #[.int .i64 0, .string (⟨#[]⟩ : ByteArray)] 31 (0, 0)) (by (with_reducible repeat (first | refine blk_drewN ?_ _ | refine blk_drew ?_ | refine blk_alloc ?_ _)); exact BK170.out) hb); have n4_ := Aside0.mk (blk_below (g := gb171) (o := .cells #[.int .i64 1, .string (⟨#[]⟩ : ByteArray)] 31 (0, 0)) (by (with_reducible repeat (first | refine blk_drewN ?_ _ | refine blk_drew ?_ | refine blk_alloc ?_ _)); exact BK171.out) hb); have n5_ := Aside0.mk (below_step (by repeat (first | (with_reducible first | exact HB.out | apply below_alloc | apply pw_below_drewN | apply below_drew1 | refine below_set ?_ GE170.out | refine below_set ?_ GE171.out) | exact HB.out)) hb); clear HO_8; clear HO183; clear BK170; clear BK171; clear HB; have HO_8 := n0_; have HO183 := n1_; have HO186 := n2_; have BK170 := n3_; have BK171 := n4_; have HB := n5_; clear n0_ n1_ n2_ n3_ n4_ n5_; (try clear hb); (try clear hb2); (try clear hk); (try clear hi); (try clear ho0); obtain ⟨Ao35, co35, eo35⟩ := Kd.R_slice HO186.out; subst eo35; have p187 : 0 ≤ (1 : Int) := (by omega); have q187 : 1 < (t184.length : Int) := of_decide_eq_true (by first | (with_reducible assumption) | assumption); obtain ⟨ad187, e187, hx187_0⟩ := Kd.at_int (Kd.R_reads' HO186.out).2.2 1 p187 q187; cases e187; (try simp only [show (1 : Int).toNat = 1 from rfl, Nat.reduceMul, Nat.reduceEqDiff, Go.Addr.add, ↓reduceIte] at hx187_0); have qi187 : (1 < t184.length) = True := eq_true (by omega); (try rw [show ((1 : Int)).toNat = 1 from rfl] at hx187_0); replace p187 := eq_true p187; replace q187 := eq_true q187))
                (try simp only [Act.put, List.setIfInBounds_toArray, List.set_cons_zero, List.set_cons_succ])
                go_cut [68] (fun v68 wc => ∃ (kq : Nat) (x68_29 : Bool), v68 = .bool x68_29 ∧ Aside0 (spec_ReadPin.j2 kq a0 t184 (wrap64 (rd t184 1)) x68_29 1 (⟨#[]⟩ : ByteArray) = some (r1, r2)) ∧ Aside0 (kq ≤ k2) ∧ Aside0 (Kd.R (Kd.int .u8) 5 wc w.heap.size (fun _ => True) (.slice (some ad187) t184.length co35) t184) ∧ Aside0 (wc.heap[gb170]? = some (.cells #[.int .i64 0, .string (⟨#[]⟩ : ByteArray)] 31 (0, 0))) ∧ Aside0 (wc.heap[gb171]? = some (.cells #[.int .i64 1, .string (⟨#[]⟩ : ByteArray)] 31 (0, 0))) ∧ Aside0 (Below w.heap.size w wc))
                case first =>
                  have H := HC30.out
                  clear HC30
                  by_cases c36 : 0 < (t184.length : Int)
                  · rw [if_pos c36] at H
                    have c36b0 : decide (0 < (t184.length : Int)) = true := decide_eq_true c36
                    have c36b1 : decide (0 < t184.length) = true := decide_eq_true (by omega)
                    clear c36
                    (first | rw [c36b0] | (simp only [i64_w, i32_w]; rw [c36b0]) | skip)
                    by_cases c37 : (wrap64 (rd t184 0)) = a0
                    · rw [if_pos c37] at H
                      have c37b0 : ((wrap64 (rd t184 0)) == a0) = true := beq_iff_eq.mpr c37
                      have c37b1 : ((wrap64 (rd t184 0)) != a0) = false := bne_eq_false_iff_eq.mpr c37
                      clear c37
                      by_cases c38 : (wrap64 (rd t184 1)) < 4
                      · rw [if_pos c38] at H
                        have c38b0 : decide ((wrap64 (rd t184 1)) < 4) = true := decide_eq_true c38
                        clear c38
                        have H' := Aside0.mk H
                        clear H
                        have p188 : 0 ≤ (0 : Int) := (by omega)
                        have q188 : 0 < (t184.length : Int) := of_decide_eq_true (by first | (with_reducible assumption) | assumption)
                        obtain ⟨ad188, e188, hx188_0⟩ := Kd.at_int (Kd.R_reads' HO186.out).2.2 0 p188 q188
                        obtain rfl : ad187 = ad188 := (by injection e188)
                        have qi188 : (0 < t184.length) = True := eq_true (by omega)
                        (try rw [show ((0 : Int)).toNat = 0 from rfl] at hx188_0)
                        (try rw [Addr.add_zero'] at hx188_0)
                        replace p188 := eq_true p188
                        replace q188 := eq_true q188
                        go_wp2
                        go_meet
                        case rel => exact ⟨_, (true), (by first | rfl | (simp; done) | (simp [*]; done)), H', ⟨by have := HJ3.out; have := HK2.out; first | omega | exact Nat.le_refl _⟩, ⟨by (with_reducible repeat (first | apply Kd.R_alloc | apply Kd.R_drewN | apply Kd.R_drew)); exact Kd.R_mono HO186.out (fun _ hk => trivial)⟩, ⟨by (with_reducible repeat (first | refine blk_drewN ?_ _ | refine blk_drew ?_ | refine blk_alloc ?_ _)); exact BK170.out⟩, ⟨by (with_reducible repeat (first | refine blk_drewN ?_ _ | refine blk_drew ?_ | refine blk_alloc ?_ _)); exact BK171.out⟩, ⟨by repeat (first | (with_reducible first | exact HB.out | apply below_alloc | apply pw_below_drewN | apply below_drew1 | refine below_set ?_ GE170.out | refine below_set ?_ GE171.out) | exact HB.out)⟩⟩
                      · rw [if_neg c38] at H
                        have c38b0 : decide ((wrap64 (rd t184 1)) < 4) = false := decide_eq_false c38
                        clear c38
                        have H' := Aside0.mk H
                        clear H
                        have p188 : 0 ≤ (0 : Int) := (by omega)
                        have q188 : 0 < (t184.length : Int) := of_decide_eq_true (by first | (with_reducible assumption) | assumption)
                        obtain ⟨ad188, e188, hx188_0⟩ := Kd.at_int (Kd.R_reads' HO186.out).2.2 0 p188 q188
                        obtain rfl : ad187 = ad188 := (by injection e188)
                        have qi188 : (0 < t184.length) = True := eq_true (by omega)
                        (try rw [show ((0 : Int)).toNat = 0 from rfl] at hx188_0)
                        (try rw [Addr.add_zero'] at hx188_0)
                        replace p188 := eq_true p188
                        replace q188 := eq_true q188
                        go_wp2
                        go_meet
                        case rel => exact ⟨_, (decide ((wrap64 (rd t184 1)) > 12)), (by first | rfl | (simp; done) | (simp [*]; done)), H', ⟨by have := HJ3.out; have := HK2.out; first | omega | exact Nat.le_refl _⟩, ⟨by (with_reducible repeat (first | apply Kd.R_alloc | apply Kd.R_drewN | apply Kd.R_drew)); exact Kd.R_mono HO186.out (fun _ hk => trivial)⟩, ⟨by (with_reducible repeat (first | refine blk_drewN ?_ _ | refine blk_drew ?_ | refine blk_alloc ?_ _)); exact BK170.out⟩, ⟨by (with_reducible repeat (first | refine blk_drewN ?_ _ | refine blk_drew ?_ | refine blk_alloc ?_ _)); exact BK171.out⟩, ⟨by repeat (first | (with_reducible first | exact HB.out | apply below_alloc | apply pw_below_drewN | apply below_drew1 | refine below_set ?_ GE170.out | refine below_set ?_ GE171.out) | exact HB.out)⟩⟩
                    · rw [if_neg c37] at H
                      have c37b0 : ((wrap64 (rd t184 0)) == a0) = false := beq_eq_false_iff_ne.mpr c37
                      have c37b1 : ((wrap64 (rd t184 0)) != a0) = true := bne_iff_ne.mpr c37
                      have H' := Aside0.mk H
                      clear H
                      have p188 : 0 ≤ (0 : Int) := (by omega)
                      have q188 : 0 < (t184.length : Int) := of_decide_eq_true (by first | (with_reducible assumption) | assumption)
                      obtain ⟨ad188, e188, hx188_0⟩ := Kd.at_int (Kd.R_reads' HO186.out).2.2 0 p188 q188
                      obtain rfl : ad187 = ad188 := (by injection e188)
                      have qi188 : (0 < t184.length) = True := eq_true (by omega)
                      (try rw [show ((0 : Int)).toNat = 0 from rfl] at hx188_0)
                      (try rw [Addr.add_zero'] at hx188_0)
                      replace p188 := eq_true p188
                      replace q188 := eq_true q188
                      go_wp2
                      go_meet
                      case rel => exact ⟨_, (true), (by first | rfl | (simp; done) | (simp [*]; done)), H', ⟨by have := HJ3.out; have := HK2.out; first | omega | exact Nat.le_refl _⟩, ⟨by (with_reducible repeat (first | apply Kd.R_alloc | apply Kd.R_drewN | apply Kd.R_drew)); exact Kd.R_mono HO186.out (fun _ hk => trivial)⟩, ⟨by (with_reducible repeat (first | refine blk_drewN ?_ _ | refine blk_drew ?_ | refine blk_alloc ?_ _)); exact BK170.out⟩, ⟨by (with_reducible repeat (first | refine blk_drewN ?_ _ | refine blk_drew ?_ | refine blk_alloc ?_ _)); exact BK171.out⟩, ⟨by repeat (first | (with_reducible first | exact HB.out | apply below_alloc | apply pw_below_drewN | apply below_drew1 | refine below_set ?_ GE170.out | refine below_set ?_ GE171.out) | exact HB.out)⟩⟩
                  · rw [if_neg c36] at H
                    exact absurd H (by simp)
                case rest =>
                  clear HC30
                  try clear c1
                  try clear p1
                  try clear q1
                  try clear hx1
                  try clear qi1
                  try clear c2
                  try clear p2
                  try clear c3
                  try clear c4
                  try clear p6
                  try clear c7
                  try clear c9
                  try clear c9b0
                  try clear c9b1
                  try clear c11
                  try clear c12
                  try clear c12b0
                  try clear c12b1
                  try clear c14
                  try clear c15
                  try clear c16
                  try clear p17
                  try clear q17
                  try clear hx17
                  try clear p18
                  try clear q18
                  try clear hx18
                  try clear qi18
                  try clear c19
                  try clear c19b0
                  try clear c20
                  try clear c20b0
                  try clear c21
                  try clear c21b0
                  try clear c22
                  try clear c29
                  try clear c29b0
                  try clear c29b1
                  try clear c36
                  try clear c36b0
                  try clear c36b1
                  try clear c37
                  try clear c37b0
                  try clear c37b1
                  try clear c38
                  try clear c38b0
                  try clear hcz17_0
                  try clear hcz17_1
                  try clear hcz18_0
                  try clear hcz18_1
                  try clear hcz8_0
                  try clear hcz8_1
                  try clear hfz17_0
                  try clear hfz17_1
                  try clear hfz18_0
                  try clear hfz18_1
                  try clear hfz8_0
                  try clear hfz8_1
                  try clear hx174_0
                  try clear hx187_0
                  try clear hx188_0
                  try clear p174
                  try clear p187
                  try clear p188
                  try clear p2
                  try clear q174
                  try clear q187
                  try clear q188
                  obtain ⟨kq, x68_29, rfl, HA, HJ29, HO_8, BK170, BK171, HB⟩ := hcut
                  cases kq with
                  | zero => exact absurd HA.out (by simp [spec_ReadPin.j2])
                  | succ kj29 =>
                    have H := HA.out
                    clear HA
                    simp only [spec_ReadPin.j2] at H
                    by_cases c39 : x68_29 = true
                    · subst c39
                      have H1 : (some (1, (⟨#[]⟩ : ByteArray))) = some (r1, r2) := by rw [if_pos rfl] at H; exact H
                      clear H
                      have H := H1
                      clear H1
                      simp only [Option.some.injEq, Prod.mk.injEq] at H
                      obtain ⟨rfl, rfl⟩ := H
                      have hnb40 := NB171_170.out
                      have hnc40 := NB170_171.out
                      have hcz41_0 : wc.cell? ⟨gb171, 0, none⟩ = some (.int .i64 1) := (blk_cell BK171.out 0).trans rfl
                      have hcz41_1 : wc.cell? ⟨gb171, 1, none⟩ = some (.string (⟨#[]⟩ : ByteArray)) := (blk_cell BK171.out 1).trans rfl
                      have hfz41_0 := blk_frozen BK171.out 0
                      have hfz41_1 := blk_frozen BK171.out 1
                      have hcz42_0 : wc.cell? ⟨gb170, 0, none⟩ = some (.int .i64 0) := (blk_cell BK170.out 0).trans rfl
                      have hcz42_1 : wc.cell? ⟨gb170, 1, none⟩ = some (.string (⟨#[]⟩ : ByteArray)) := (blk_cell BK170.out 1).trans rfl
                      have hfz42_0 := blk_frozen BK170.out 0
                      have hfz42_1 := blk_frozen BK170.out 1
                      go_wp2
                      refine bodyPost_ret (results_cell_row rfl _ _ gb170 31 #[.int .i64 1, .string (⟨#[]⟩ : ByteArray)] (0, 0) _ rfl (by (with_reducible repeat (first | refine blk_drewN ?_ _ | refine blk_drew ?_ | refine blk_alloc ?_ _)); refine blk_put (cs := #[.int .i64 1, .string (⟨#[]⟩ : ByteArray)]) ?_ 1 _ rfl; (with_reducible repeat (first | refine blk_drewN ?_ _ | refine blk_drew ?_ | refine blk_alloc ?_ _)); refine blk_put (cs := #[.int .i64 0, .string (⟨#[]⟩ : ByteArray)]) ?_ 0 _ rfl; (with_reducible repeat (first | refine blk_drewN ?_ _ | refine blk_drew ?_ | refine blk_alloc ?_ _)); exact BK170.out) Try.underlying31 rfl (by kernel_rfl)) rfl ?_
                      exact ⟨by first | rfl | (simp [errW_none, errW_some] <;> rfl) | (simp [*, errW_none, errW_some] <;> rfl), by repeat (first | (with_reducible first | exact HB.out | apply below_alloc | apply pw_below_drewN | apply below_drew1 | refine below_set ?_ GE170.out | refine below_set ?_ GE171.out) | exact HB.out)⟩
                    · replace c39 := Bool.eq_false_iff.mpr c39
                      subst c39
                      have H1 : (if 2 ≤ (t184.length : Int) then ((some (t184.drop 2 : List Int)).bind fun y189 => (spec_ReadPin.l1 kj29 a0 (wrap64 (rd t184 1)) (⟨#[]⟩ : ByteArray) y189 (y189.length : Int) 0 1 (⟨#[]⟩ : ByteArray))) else (none)) = some (r1, r2) := by rw [if_neg (show ¬ (false = true) by decide)] at H; exact H
                      clear H
                      have H := H1
                      clear H1
                      by_cases c43 : 2 ≤ (t184.length : Int)
                      · rw [if_pos c43] at H
                        have c43b0 := eq_true c43
                        have c43b1 : decide (2 ≤ (t184.length : Int)) = true := decide_eq_true c43
                        clear c43
                        obtain ⟨y189, hy189⟩ : ∃ y_ : List Int, y_ = (t184.drop 2) := ⟨_, rfl⟩
                        replace H : (spec_ReadPin.l1 kj29 a0 (wrap64 (rd t184 1)) (⟨#[]⟩ : ByteArray) y189 (y189.length : Int) 0 1 (⟨#[]⟩ : ByteArray)) = some (r1, r2) := by first | (rw [hy189]; with_reducible exact H) | (have H2_ := (Option.bind_some _ _).symm.trans H; rw [hy189]; with_reducible exact H2_) | (have H2_ := (Option.bind_some _ _).symm.trans H; with_reducible exact H2_) | with_reducible exact H | (rw [hy189]; exact H) | exact H
                        have Ny189 := Aside0.mk hy189
                        clear hy189
                        have H' := Aside0.mk H
                        clear H
                        have q44 : (2 : Int) ≤ ((t184.length : Int) : Int) := of_decide_eq_true (by first | (with_reducible assumption) | assumption)
                        obtain ⟨i044, hi044, _, hsz44, _⟩ := info_parts info5
                        have hroom44 : t184.length ≤ co35 := (Kd.R_reads' HO_8.out).2.1
                        have hC44 : Kd.C (Kd.int .u8) _ (some ad187) t184.length t184 := (Kd.R_reads' HO_8.out).2.2
                        have hcut44 := cut_from (P := Try.prog) 29 5 .i64 Try.underlying29 hi044 1 hsz44 (some ad187) t184.length co35 2 (by omega) q44
                        have hr44 := Kd.C_drop (m := (2 : Int).toNat) (c := co35) hC44 (by omega) hroom44
                        obtain ⟨A44, hA44⟩ : ∃ A1, A1 = (if co35 = (2 : Int).toNat then (some ad187) else ((some ad187) : Option Addr).map (·.add ((2 : Int).toNat * 1))) := ⟨_, rfl⟩
                        obtain ⟨c44, hc44⟩ : ∃ c1, c1 = co35 - (2 : Int).toNat := ⟨_, rfl⟩
                        have hy44 : y189.length = t184.length - (2 : Int).toNat := (by rw [Ny189.out, List.length_drop] <;> omega)
                        rw [show (t184).drop (2 : Int).toNat = y189 from Ny189.out.symm] at hr44
                        replace hr44 : Kd.C (Kd.int .u8) _ A44 y189.length y189 := (by rw [hA44]; exact hr44)
                        rw [← hy44, ← hA44, ← hc44] at hcut44
                        have HR192 := Aside0.mk hr44
                        have HC192 := Aside0.mk (show y189.length ≤ c44 from by rw [hy44, hc44]; exact Nat.sub_le_sub_right hroom44 _)
                        clear hr44 hC44 hroom44 hi044 hsz44 hc44
                        have KY44 := Aside0.mk hy44
                        have KA44 := Aside0.mk hA44
                        clear hy44 hA44
                        have KL44 := Aside0.mk (show 2 ≤ t184.length from by omega)
                        replace q44 := eq_true q44
                        go_wp2
                        go_loopg [12, 73] kj29 (fun kq v12 v73 w' => ∃ (x12_4 : ByteArray) (x73_4 : Int) (x171000_4 : Int) (x171001_4 : ByteArray), v12 = .string x12_4 ∧ v73 = .int .i64 x73_4 ∧ Aside0 (spec_ReadPin.l1 kq a0 (wrap64 (rd t184 1)) x12_4 y189 (y189.length : Int) x73_4 1 (⟨#[]⟩ : ByteArray) = some (r1, r2)) ∧ Aside0 (kq ≤ kj29) ∧ Aside0 (w'.heap[gb170]? = some (.cells #[.int .i64 x171000_4, .string x171001_4] 31 (0, 0))) ∧ Aside0 (w'.heap[gb171]? = some (.cells #[.int .i64 1, .string (⟨#[]⟩ : ByteArray)] 31 (0, 0))) ∧ Aside0 (Kd.C (Kd.int .u8) w' A44 y189.length y189) ∧ Aside0 (Below w.heap.size w w'))
                        case atStart => exact ⟨((⟨#[]⟩ : ByteArray)), (0), (0), ((⟨#[]⟩ : ByteArray)), (by first | rfl | (simp; done) | (simp [*]; done)), (by first | rfl | (simp; done) | (simp [*]; done)), H', ⟨Nat.le_refl _⟩, ⟨by (with_reducible repeat (first | refine blk_drewN ?_ _ | refine blk_drew ?_ | refine blk_alloc ?_ _)); exact BK170.out⟩, ⟨by (with_reducible repeat (first | refine blk_drewN ?_ _ | refine blk_drew ?_ | refine blk_alloc ?_ _)); exact BK171.out⟩, ⟨by repeat (first | (with_reducible exact HR192.out) | (with_reducible refine Kd.C_alloc ?_ _) | (with_reducible refine Kd.C_drewN ?_ _) | (with_reducible refine Kd.C_drew ?_) | exact HR192.out)⟩, ⟨by repeat (first | (with_reducible first | exact HB.out | apply below_alloc | apply pw_below_drewN | apply below_drew1 | refine below_set ?_ GE170.out | refine below_set ?_ GE171.out) | exact HB.out)⟩⟩
                        case round =>
                          clear H'
                          try clear c1
                          try clear p1
                          try clear q1
                          try clear hx1
                          try clear qi1
                          try clear c2
                          try clear p2
                          try clear c3
                          try clear c4
                          try clear q4
                          try clear p6
                          try clear c7
                          try clear c9
                          try clear c9b0
                          try clear c9b1
                          try clear c11
                          try clear c12
                          try clear c12b0
                          try clear c12b1
                          try clear c14
                          try clear c15
                          try clear c16
                          try clear p17
                          try clear q17
                          try clear hx17
                          try clear p18
                          try clear q18
                          try clear hx18
                          try clear qi18
                          try clear c19
                          try clear c19b0
                          try clear c20
                          try clear c20b0
                          try clear c21
                          try clear c21b0
                          try clear c22
                          try clear c29
                          try clear c29b0
                          try clear c29b1
                          try clear c36
                          try clear c36b0
                          try clear c36b1
                          try clear c37
                          try clear c37b0
                          try clear c37b1
                          try clear c38
                          try clear c38b0
                          try clear c39
                          try clear c40
                          try clear c43
                          try clear c43b0
                          try clear c43b1
                          try clear c44
                          try clear q44
                          try clear hcz17_0
                          try clear hcz17_1
                          try clear hcz18_0
                          try clear hcz18_1
                          try clear hcz41_0
                          try clear hcz41_1
                          try clear hcz42_0
                          try clear hcz42_1
                          try clear hcz8_0
                          try clear hcz8_1
                          try clear hfz17_0
                          try clear hfz17_1
                          try clear hfz18_0
                          try clear hfz18_1
                          try clear hfz41_0
                          try clear hfz41_1
                          try clear hfz42_0
                          try clear hfz42_1
                          try clear hfz8_0
                          try clear hfz8_1
                          try clear hx174_0
                          try clear hx187_0
                          try clear hx188_0
                          try clear p1
                          try clear p17
                          try clear p174
                          try clear p18
                          try clear p187
                          try clear p188
                          try clear p2
                          try clear p6
                          try clear q1
                          try clear q17
                          try clear q174
                          try clear q18
                          try clear q187
                          try clear q188
                          try clear q44
                          obtain ⟨x12_4, x73_4, x171000_4, x171001_4, rfl, rfl, HA, HK4, BK170, BK171, HR192, HB⟩ := hrel
                          cases gk with
                          | zero => exact absurd HA.out (by simp [spec_ReadPin.l1])
                          | succ k4 =>
                            have H := HA.out
                            clear HA
                            simp only [spec_ReadPin.l1] at H
                            by_cases c45 : x73_4 < (y189.length : Int)
                            · rw [if_pos c45] at H
                              have c45b0 : decide (x73_4 < (y189.length : Int)) = true := decide_eq_true c45
                              clear c45
                              by_cases c46 : 0 ≤ x73_4
                              · rw [if_pos c46] at H
                                have c46b0 : decide (0 ≤ x73_4) = true := decide_eq_true c46
                                clear c46
                                by_cases c47 : x73_4 < (y189.length : Int)
                                · rw [if_pos c47] at H
                                  have c47b0 : decide (x73_4 < (y189.length : Int)) = true := decide_eq_true c47
                                  clear c47
                                  have HC48 := Aside0.mk H
                                  clear H
                                  have p193 : 0 ≤ (x73_4 : Int) := of_decide_eq_true (by first | (with_reducible assumption) | assumption)
                                  have q193 : x73_4 < (y189.length : Int) := of_decide_eq_true (by first | (with_reducible assumption) | assumption)
                                  obtain ⟨ad193, e193, hx193_0⟩ := Kd.at_int HR192.out x73_4 p193 q193
                                  cases e193
                                  replace p193 := eq_true p193
                                  replace q193 := eq_true q193
                                  go_upto_region 18 with (fail)
                                  go_cut [78] (fun v78 wc => ∃ (kq : Nat) (x78_47 : Bool), v78 = .bool x78_47 ∧ Aside0 (spec_ReadPin.j4 kq a0 (wrap64 (rd t184 1)) x12_4 x73_4 (rd y189 x73_4) y189 (y189.length : Int) x73_4 x78_47 1 (⟨#[]⟩ : ByteArray) = some (r1, r2)) ∧ Aside0 (kq ≤ k4) ∧ Aside0 (wc.heap[gb170]? = some (.cells #[.int .i64 x171000_4, .string x171001_4] 31 (0, 0))) ∧ Aside0 (wc.heap[gb171]? = some (.cells #[.int .i64 1, .string (⟨#[]⟩ : ByteArray)] 31 (0, 0))) ∧ Aside0 (Kd.C (Kd.int .u8) wc (some ad193) y189.length y189) ∧ Aside0 (Below w.heap.size w wc))
                                  case first =>
                                    have H := HC48.out
                                    clear HC48
                                    by_cases c49 : x73_4 < (wrap64 (rd t184 1))
                                    · rw [if_pos c49] at H
                                      have c49b0 : decide (x73_4 < (wrap64 (rd t184 1))) = true := decide_eq_true c49
                                      clear c49
                                      (first | rw [c49b0] | (simp only [i64_w, i32_w]; rw [c49b0]) | skip)
                                      have H' := Aside0.mk H
                                      clear H
                                      go_wp2
                                      go_meet
                                      case rel => exact ⟨_, (decide ((rd y189 x73_4) > 9)), (by first | rfl | (simp; done) | (simp [*]; done)), H', ⟨by have := HJ3.out; have := HK2.out; have := HJ29.out; have := HK4.out; first | omega | exact Nat.le_refl _⟩, ⟨by (with_reducible repeat (first | refine blk_drewN ?_ _ | refine blk_drew ?_ | refine blk_alloc ?_ _)); exact BK170.out⟩, ⟨by (with_reducible repeat (first | refine blk_drewN ?_ _ | refine blk_drew ?_ | refine blk_alloc ?_ _)); exact BK171.out⟩, ⟨by repeat (first | (with_reducible exact HR192.out) | (with_reducible refine Kd.C_alloc ?_ _) | (with_reducible refine Kd.C_drewN ?_ _) | (with_reducible refine Kd.C_drew ?_) | exact HR192.out)⟩, ⟨by repeat (first | (with_reducible first | exact HB.out | apply below_alloc | apply pw_below_drewN | apply below_drew1 | refine below_set ?_ GE170.out | refine below_set ?_ GE171.out) | exact HB.out)⟩⟩
                                    · rw [if_neg c49] at H
                                      have c49b0 : decide (x73_4 < (wrap64 (rd t184 1))) = false := decide_eq_false c49
                                      clear c49
                                      (first | rw [c49b0] | (simp only [i64_w, i32_w]; rw [c49b0]) | skip)
                                      have H' := Aside0.mk H
                                      clear H
                                      go_wp2
                                      go_meet
                                      case rel => exact ⟨_, (false), (by first | rfl | (simp; done) | (simp [*]; done)), H', ⟨by have := HJ3.out; have := HK2.out; have := HJ29.out; have := HK4.out; first | omega | exact Nat.le_refl _⟩, ⟨by (with_reducible repeat (first | refine blk_drewN ?_ _ | refine blk_drew ?_ | refine blk_alloc ?_ _)); exact BK170.out⟩, ⟨by (with_reducible repeat (first | refine blk_drewN ?_ _ | refine blk_drew ?_ | refine blk_alloc ?_ _)); exact BK171.out⟩, ⟨by repeat (first | (with_reducible exact HR192.out) | (with_reducible refine Kd.C_alloc ?_ _) | (with_reducible refine Kd.C_drewN ?_ _) | (with_reducible refine Kd.C_drew ?_) | exact HR192.out)⟩, ⟨by repeat (first | (with_reducible first | exact HB.out | apply below_alloc | apply pw_below_drewN | apply below_drew1 | refine below_set ?_ GE170.out | refine below_set ?_ GE171.out) | exact HB.out)⟩⟩
                                  case rest =>
                                    clear HC48
                                    try clear c1
                                    try clear p1
                                    try clear q1
                                    try clear hx1
                                    try clear qi1
                                    try clear c2
                                    try clear p2
                                    try clear c3
                                    try clear c4
                                    try clear q4
                                    try clear p6
                                    try clear c7
                                    try clear c9
                                    try clear c9b0
                                    try clear c9b1
                                    try clear c11
                                    try clear c12
                                    try clear c12b0
                                    try clear c12b1
                                    try clear c14
                                    try clear c15
                                    try clear c16
                                    try clear p17
                                    try clear q17
                                    try clear hx17
                                    try clear p18
                                    try clear q18
                                    try clear hx18
                                    try clear qi18
                                    try clear c19
                                    try clear c19b0
                                    try clear p19
                                    try clear q19
                                    try clear hx19
                                    try clear c20
                                    try clear c20b0
                                    try clear c21
                                    try clear c21b0
                                    try clear c22
                                    try clear c29
                                    try clear c29b0
                                    try clear c29b1
                                    try clear c36
                                    try clear c36b0
                                    try clear c36b1
                                    try clear c37
                                    try clear c37b0
                                    try clear c37b1
                                    try clear c38
                                    try clear c38b0
                                    try clear c39
                                    try clear c40
                                    try clear c43
                                    try clear c43b0
                                    try clear c43b1
                                    try clear c44
                                    try clear q44
                                    try clear c45
                                    try clear c45b0
                                    try clear c46
                                    try clear c46b0
                                    try clear c47
                                    try clear c47b0
                                    try clear c49
                                    try clear c49b0
                                    try clear hcz17_0
                                    try clear hcz17_1
                                    try clear hcz18_0
                                    try clear hcz18_1
                                    try clear hcz41_0
                                    try clear hcz41_1
                                    try clear hcz42_0
                                    try clear hcz42_1
                                    try clear hcz8_0
                                    try clear hcz8_1
                                    try clear hfz17_0
                                    try clear hfz17_1
                                    try clear hfz18_0
                                    try clear hfz18_1
                                    try clear hfz41_0
                                    try clear hfz41_1
                                    try clear hfz42_0
                                    try clear hfz42_1
                                    try clear hfz8_0
                                    try clear hfz8_1
                                    try clear hx174_0
                                    try clear hx187_0
                                    try clear hx188_0
                                    try clear hx193_0
                                    try clear p1
                                    try clear p17
                                    try clear p174
                                    try clear p18
                                    try clear p187
                                    try clear p188
                                    try clear p193
                                    try clear p2
                                    try clear p6
                                    try clear q1
                                    try clear q17
                                    try clear q174
                                    try clear q18
                                    try clear q187
                                    try clear q188
                                    try clear q193
                                    try clear q4
                                    try clear q44
                                    obtain ⟨kq, x78_47, rfl, HA, HJ47, BK170, BK171, HR192, HB⟩ := hcut
                                    cases kq with
                                    | zero => exact absurd HA.out (by simp [spec_ReadPin.j4])
                                    | succ kj47 =>
                                      have H := HA.out
                                      clear HA
                                      simp only [spec_ReadPin.j4] at H
                                      by_cases c50 : x78_47 = true
                                      · subst c50
                                        have H1 : (some (1, (⟨#[]⟩ : ByteArray))) = some (r1, r2) := by rw [if_pos rfl] at H; exact H
                                        clear H
                                        have H := H1
                                        clear H1
                                        simp only [Option.some.injEq, Prod.mk.injEq] at H
                                        obtain ⟨rfl, rfl⟩ := H
                                        have hnb51 := NB171_170.out
                                        have hnc51 := NB170_171.out
                                        have hcz52_0 : wc.cell? ⟨gb171, 0, none⟩ = some (.int .i64 1) := (blk_cell BK171.out 0).trans rfl
                                        have hcz52_1 : wc.cell? ⟨gb171, 1, none⟩ = some (.string (⟨#[]⟩ : ByteArray)) := (blk_cell BK171.out 1).trans rfl
                                        have hfz52_0 := blk_frozen BK171.out 0
                                        have hfz52_1 := blk_frozen BK171.out 1
                                        have hcz53_0 : wc.cell? ⟨gb170, 0, none⟩ = some (.int .i64 x171000_4) := (blk_cell BK170.out 0).trans rfl
                                        have hcz53_1 : wc.cell? ⟨gb170, 1, none⟩ = some (.string x171001_4) := (blk_cell BK170.out 1).trans rfl
                                        have hfz53_0 := blk_frozen BK170.out 0
                                        have hfz53_1 := blk_frozen BK170.out 1
                                        go_wp2
                                        refine bodyPost_ret (results_cell_row rfl _ _ gb170 31 #[.int .i64 1, .string (⟨#[]⟩ : ByteArray)] (0, 0) _ rfl (by (with_reducible repeat (first | refine blk_drewN ?_ _ | refine blk_drew ?_ | refine blk_alloc ?_ _)); refine blk_put (cs := #[.int .i64 1, .string x171001_4]) ?_ 1 _ rfl; (with_reducible repeat (first | refine blk_drewN ?_ _ | refine blk_drew ?_ | refine blk_alloc ?_ _)); refine blk_put (cs := #[.int .i64 x171000_4, .string x171001_4]) ?_ 0 _ rfl; (with_reducible repeat (first | refine blk_drewN ?_ _ | refine blk_drew ?_ | refine blk_alloc ?_ _)); exact BK170.out) Try.underlying31 rfl (by kernel_rfl)) rfl ?_
                                        exact ⟨by first | rfl | (simp [errW_none, errW_some] <;> rfl) | (simp [*, errW_none, errW_some] <;> rfl), by repeat (first | (with_reducible first | exact HB.out | apply below_alloc | apply pw_below_drewN | apply below_drew1 | refine below_set ?_ GE170.out | refine below_set ?_ GE171.out) | exact HB.out)⟩
                                      · replace c50 := Bool.eq_false_iff.mpr c50
                                        subst c50
                                        have H1 : (if x73_4 < (wrap64 (rd t184 1)) then ((some (([(48 + (rd y189 x73_4)) % 256] : List Int) : List Int)).bind fun y194 => (if x12_4.size + (strOfNums y194).size ≤ 9223372036854775807 then (spec_ReadPin.l1 kj47 a0 (wrap64 (rd t184 1)) (x12_4 ++ (strOfNums y194)) y189 (y189.length : Int) (wrap64 (x73_4 + 1)) 1 (⟨#[]⟩ : ByteArray)) else (none))) else (if a0 = 0 then (if (rd y189 x73_4) = 15 then (if (rd y189 x73_4) < 10 then (some (1, (⟨#[]⟩ : ByteArray))) else (spec_ReadPin.l1 kj47 a0 (wrap64 (rd t184 1)) x12_4 y189 (y189.length : Int) (wrap64 (x73_4 + 1)) 1 (⟨#[]⟩ : ByteArray))) else (some (1, (⟨#[]⟩ : ByteArray)))) else (if (rd y189 x73_4) < 10 then (some (1, (⟨#[]⟩ : ByteArray))) else (spec_ReadPin.l1 kj47 a0 (wrap64 (rd t184 1)) x12_4 y189 (y189.length : Int) (wrap64 (x73_4 + 1)) 1 (⟨#[]⟩ : ByteArray))))) = some (r1, r2) := by rw [if_neg (show ¬ (false = true) by decide)] at H; exact H
                                        clear H
                                        have H := H1
                                        clear H1
                                        by_cases c54 : x73_4 < (wrap64 (rd t184 1))
                                        · rw [if_pos c54] at H
                                          have c54b0 : decide (x73_4 < (wrap64 (rd t184 1))) = true := decide_eq_true c54
                                          clear c54
                                          obtain ⟨y194, hy194⟩ : ∃ y_ : List Int, y_ = (([(48 + (rd y189 x73_4)) % 256] : List Int)) := ⟨_, rfl⟩
                                          replace H : (if x12_4.size + (strOfNums y194).size ≤ 9223372036854775807 then (spec_ReadPin.l1 kj47 a0 (wrap64 (rd t184 1)) (x12_4 ++ (strOfNums y194)) y189 (y189.length : Int) (wrap64 (x73_4 + 1)) 1 (⟨#[]⟩ : ByteArray)) else (none)) = some (r1, r2) := by first | (rw [hy194]; with_reducible exact H) | (have H2_ := (Option.bind_some _ _).symm.trans H; rw [hy194]; with_reducible exact H2_) | (have H2_ := (Option.bind_some _ _).symm.trans H; with_reducible exact H2_) | with_reducible exact H | (rw [hy194]; exact H) | exact H
                                          have Ny194 := Aside0.mk hy194
                                          clear hy194
                                          by_cases c55 : x12_4.size + (strOfNums y194).size ≤ 9223372036854775807
                                          · rw [if_pos c55] at H
                                            have c55b0 := eq_true c55
                                            have c55b1 : decide (x12_4.size + (strOfNums y194).size ≤ 9223372036854775807) = true := decide_eq_true c55
                                            try have c55b2 : (9223372036854775807 < x12_4.size + (strOfNums y194).size) = False := eq_false (Nat.not_lt.2 c55)
                                            have H' := Aside0.mk H
                                            clear H
                                            go_wp2_with (first | ((with_reducible refine gate_dst (N := 94) rfl ?_); (try (refine gate_guard (by rfl) ?_; dsimp only)); refine Kd.R_lit (Kd.int .u8) _ 5 ?hg (N := 94) ?hd (xs := ([(48 + (rd y189 x73_4)) % 256] : List Int)) (inner := [.int .u8 ((48 + (rd y189 x73_4)) % 256)]) (ok := fun _ => True) (okp := fun _ => True) ?hr ?hp (fun _ hk => hk) trivial (Below.refl _ _) (Nat.le_refl _) (by simp) ?_; (case hd => rfl); (case hg => rfl); (case hr => first | (go_simp; done) | (go_simp; rfl)); (case hp => exact (Reps.one (show Kd.M (Kd.int .u8) _ _ _ ((48 + (rd y189 x73_4)) % 256) [.int .u8 ((48 + (rd y189 x73_4)) % 256)] from rfl) (Reps.none _ _))); intro v195 w56 ho57 hb hg_ hnew_; clear hg_ hnew_; (first | rw [← Ny194.out] at ho57 | (simp only [Int.reduceToNat] at ho57; rw [← Ny194.out] at ho57)); have n0_ := Aside0.mk (Kd.R_lower ho57 (below_size (by repeat (first | (with_reducible first | exact HB.out | apply below_alloc | apply pw_below_drewN | apply below_drew1 | refine below_set ?_ GE170.out | refine below_set ?_ GE171.out) | exact HB.out)))); have n1_ := Aside0.mk (blk_below (g := gb170) (o := .cells #[.int .i64 x171000_4, .string x171001_4] 31 (0, 0)) (by (with_reducible repeat (first | refine blk_drewN ?_ _ | refine blk_drew ?_ | refine blk_alloc ?_ _)); exact BK170.out) hb); have n2_ := Aside0.mk (blk_below (g := gb171) (o := .cells #[.int .i64 1, .string (⟨#[]⟩ : ByteArray)] 31 (0, 0)) (by (with_reducible repeat (first | refine blk_drewN ?_ _ | refine blk_drew ?_ | refine blk_alloc ?_ _)); exact BK171.out) hb); have n3_ := Aside0.mk (Kd.C_below (by repeat (first | (with_reducible exact HR192.out) | (with_reducible refine Kd.C_alloc ?_ _) | (with_reducible refine Kd.C_drewN ?_ _) | (with_reducible refine Kd.C_drew ?_) | exact HR192.out)) hb); have n4_ := Aside0.mk (below_step (by repeat (first | (with_reducible first | exact HB.out | apply below_alloc | apply pw_below_drewN | apply below_drew1 | refine below_set ?_ GE170.out | refine below_set ?_ GE171.out) | exact HB.out)) hb); clear BK170; clear BK171; clear HR192; clear HB; have HO196 := n0_; have BK170 := n1_; have BK171 := n2_; have HR192 := n3_; have HB := n4_; clear n0_ n1_ n2_ n3_ n4_; clear hb ho57; have hcv58 := own_string (P := Try.prog) Try.underlying29 Try.underlying5 Try.underlying9 (Kd.own_of_R HO196.out)))
                                            go_roundg kj47
                                            case measure => have := HJ3.out; have := HK2.out; have := HJ29.out; have := HK4.out; have := HJ47.out; omega
                                            case rel => exact ⟨(x12_4 ++ (strOfNums y194)), (wrap64 (x73_4 + 1)), (x171000_4), (x171001_4), (by first | rfl | (simp; done) | (simp [*]; done)), (by first | rfl | (simp; done) | (simp [*]; done)), H', ⟨by have := HJ3.out; have := HK2.out; have := HJ29.out; have := HK4.out; have := HJ47.out; omega⟩, ⟨by (with_reducible repeat (first | refine blk_drewN ?_ _ | refine blk_drew ?_ | refine blk_alloc ?_ _)); exact BK170.out⟩, ⟨by (with_reducible repeat (first | refine blk_drewN ?_ _ | refine blk_drew ?_ | refine blk_alloc ?_ _)); exact BK171.out⟩, ⟨by repeat (first | (with_reducible exact HR192.out) | (with_reducible refine Kd.C_alloc ?_ _) | (with_reducible refine Kd.C_drewN ?_ _) | (with_reducible refine Kd.C_drew ?_) | exact HR192.out)⟩, ⟨by repeat (first | (with_reducible first | exact HB.out | apply below_alloc | apply pw_below_drewN | apply below_drew1 | refine below_set ?_ GE170.out | refine below_set ?_ GE171.out) | exact HB.out)⟩⟩
                                          · rw [if_neg c55] at H
                                            exact absurd H (by simp)
                                        · rw [if_neg c54] at H
                                          have c54b0 : decide (x73_4 < (wrap64 (rd t184 1))) = false := decide_eq_false c54
                                          clear c54
                                          by_cases c59 : a0 = 0
                                          · rw [if_pos c59] at H
                                            have c59b0 : (a0 == 0) = true := beq_iff_eq.mpr c59
                                            have c59b1 : (a0 != 0) = false := bne_eq_false_iff_eq.mpr c59
                                            clear c59
                                            by_cases c60 : (rd y189 x73_4) = 15
                                            · rw [if_pos c60] at H
                                              have c60b0 : ((rd y189 x73_4) == 15) = true := beq_iff_eq.mpr c60
                                              have c60b1 : ((rd y189 x73_4) != 15) = false := bne_eq_false_iff_eq.mpr c60
                                              clear c60
                                              by_cases c61 : (rd y189 x73_4) < 10
                                              · rw [if_pos c61] at H
                                                have c61b0 : decide ((rd y189 x73_4) < 10) = true := decide_eq_true c61
                                                clear c61
                                                simp only [Option.some.injEq, Prod.mk.injEq] at H
                                                obtain ⟨rfl, rfl⟩ := H
                                                have hnb62 := NB171_170.out
                                                have hnc62 := NB170_171.out
                                                have hcz63_0 : wc.cell? ⟨gb171, 0, none⟩ = some (.int .i64 1) := (blk_cell BK171.out 0).trans rfl
                                                have hcz63_1 : wc.cell? ⟨gb171, 1, none⟩ = some (.string (⟨#[]⟩ : ByteArray)) := (blk_cell BK171.out 1).trans rfl
                                                have hfz63_0 := blk_frozen BK171.out 0
                                                have hfz63_1 := blk_frozen BK171.out 1
                                                have hcz64_0 : wc.cell? ⟨gb170, 0, none⟩ = some (.int .i64 x171000_4) := (blk_cell BK170.out 0).trans rfl
                                                have hcz64_1 : wc.cell? ⟨gb170, 1, none⟩ = some (.string x171001_4) := (blk_cell BK170.out 1).trans rfl
                                                have hfz64_0 := blk_frozen BK170.out 0
                                                have hfz64_1 := blk_frozen BK170.out 1
                                                go_wp2
                                                refine bodyPost_ret (results_cell_row rfl _ _ gb170 31 #[.int .i64 1, .string (⟨#[]⟩ : ByteArray)] (0, 0) _ rfl (by (with_reducible repeat (first | refine blk_drewN ?_ _ | refine blk_drew ?_ | refine blk_alloc ?_ _)); refine blk_put (cs := #[.int .i64 1, .string x171001_4]) ?_ 1 _ rfl; (with_reducible repeat (first | refine blk_drewN ?_ _ | refine blk_drew ?_ | refine blk_alloc ?_ _)); refine blk_put (cs := #[.int .i64 x171000_4, .string x171001_4]) ?_ 0 _ rfl; (with_reducible repeat (first | refine blk_drewN ?_ _ | refine blk_drew ?_ | refine blk_alloc ?_ _)); exact BK170.out) Try.underlying31 rfl (by kernel_rfl)) rfl ?_
                                                exact ⟨by first | rfl | (simp [errW_none, errW_some] <;> rfl) | (simp [*, errW_none, errW_some] <;> rfl), by repeat (first | (with_reducible first | exact HB.out | apply below_alloc | apply pw_below_drewN | apply below_drew1 | refine below_set ?_ GE170.out | refine below_set ?_ GE171.out) | exact HB.out)⟩
                                              · rw [if_neg c61] at H
                                                have c61b0 : decide ((rd y189 x73_4) < 10) = false := decide_eq_false c61
                                                clear c61
                                                have H' := Aside0.mk H
                                                clear H
                                                go_wp2
                                                go_roundg kj47
                                                case measure => have := HJ3.out; have := HK2.out; have := HJ29.out; have := HK4.out; have := HJ47.out; omega
                                                case rel => exact ⟨(x12_4), (wrap64 (x73_4 + 1)), (x171000_4), (x171001_4), (by first | rfl | (simp; done) | (simp [*]; done)), (by first | rfl | (simp; done) | (simp [*]; done)), H', ⟨by have := HJ3.out; have := HK2.out; have := HJ29.out; have := HK4.out; have := HJ47.out; omega⟩, ⟨by (with_reducible repeat (first | refine blk_drewN ?_ _ | refine blk_drew ?_ | refine blk_alloc ?_ _)); exact BK170.out⟩, ⟨by (with_reducible repeat (first | refine blk_drewN ?_ _ | refine blk_drew ?_ | refine blk_alloc ?_ _)); exact BK171.out⟩, ⟨by repeat (first | (with_reducible exact HR192.out) | (with_reducible refine Kd.C_alloc ?_ _) | (with_reducible refine Kd.C_drewN ?_ _) | (with_reducible refine Kd.C_drew ?_) | exact HR192.out)⟩, ⟨by repeat (first | (with_reducible first | exact HB.out | apply below_alloc | apply pw_below_drewN | apply below_drew1 | refine below_set ?_ GE170.out | refine below_set ?_ GE171.out) | exact HB.out)⟩⟩
                                            · rw [if_neg c60] at H
                                              have c60b0 : ((rd y189 x73_4) == 15) = false := beq_eq_false_iff_ne.mpr c60
                                              have c60b1 : ((rd y189 x73_4) != 15) = true := bne_iff_ne.mpr c60
                                              simp only [Option.some.injEq, Prod.mk.injEq] at H
                                              obtain ⟨rfl, rfl⟩ := H
                                              have hnb65 := NB171_170.out
                                              have hnc65 := NB170_171.out
                                              have hcz66_0 : wc.cell? ⟨gb171, 0, none⟩ = some (.int .i64 1) := (blk_cell BK171.out 0).trans rfl
                                              have hcz66_1 : wc.cell? ⟨gb171, 1, none⟩ = some (.string (⟨#[]⟩ : ByteArray)) := (blk_cell BK171.out 1).trans rfl
                                              have hfz66_0 := blk_frozen BK171.out 0
                                              have hfz66_1 := blk_frozen BK171.out 1
                                              have hcz67_0 : wc.cell? ⟨gb170, 0, none⟩ = some (.int .i64 x171000_4) := (blk_cell BK170.out 0).trans rfl
                                              have hcz67_1 : wc.cell? ⟨gb170, 1, none⟩ = some (.string x171001_4) := (blk_cell BK170.out 1).trans rfl
                                              have hfz67_0 := blk_frozen BK170.out 0
                                              have hfz67_1 := blk_frozen BK170.out 1
                                              go_wp2
                                              refine bodyPost_ret (results_cell_row rfl _ _ gb170 31 #[.int .i64 1, .string (⟨#[]⟩ : ByteArray)] (0, 0) _ rfl (by (with_reducible repeat (first | refine blk_drewN ?_ _ | refine blk_drew ?_ | refine blk_alloc ?_ _)); refine blk_put (cs := #[.int .i64 1, .string x171001_4]) ?_ 1 _ rfl; (with_reducible repeat (first | refine blk_drewN ?_ _ | refine blk_drew ?_ | refine blk_alloc ?_ _)); refine blk_put (cs := #[.int .i64 x171000_4, .string x171001_4]) ?_ 0 _ rfl; (with_reducible repeat (first | refine blk_drewN ?_ _ | refine blk_drew ?_ | refine blk_alloc ?_ _)); exact BK170.out) Try.underlying31 rfl (by kernel_rfl)) rfl ?_
                                              exact ⟨by first | rfl | (simp [errW_none, errW_some] <;> rfl) | (simp [*, errW_none, errW_some] <;> rfl), by repeat (first | (with_reducible first | exact HB.out | apply below_alloc | apply pw_below_drewN | apply below_drew1 | refine below_set ?_ GE170.out | refine below_set ?_ GE171.out) | exact HB.out)⟩
                                          · rw [if_neg c59] at H
                                            have c59b0 : (a0 == 0) = false := beq_eq_false_iff_ne.mpr c59
                                            have c59b1 : (a0 != 0) = true := bne_iff_ne.mpr c59
                                            by_cases c68 : (rd y189 x73_4) < 10
                                            · rw [if_pos c68] at H
                                              have c68b0 : decide ((rd y189 x73_4) < 10) = true := decide_eq_true c68
                                              clear c68
                                              simp only [Option.some.injEq, Prod.mk.injEq] at H
                                              obtain ⟨rfl, rfl⟩ := H
                                              have hnb69 := NB171_170.out
                                              have hnc69 := NB170_171.out
                                              have hcz70_0 : wc.cell? ⟨gb171, 0, none⟩ = some (.int .i64 1) := (blk_cell BK171.out 0).trans rfl
                                              have hcz70_1 : wc.cell? ⟨gb171, 1, none⟩ = some (.string (⟨#[]⟩ : ByteArray)) := (blk_cell BK171.out 1).trans rfl
                                              have hfz70_0 := blk_frozen BK171.out 0
                                              have hfz70_1 := blk_frozen BK171.out 1
                                              have hcz71_0 : wc.cell? ⟨gb170, 0, none⟩ = some (.int .i64 x171000_4) := (blk_cell BK170.out 0).trans rfl
                                              have hcz71_1 : wc.cell? ⟨gb170, 1, none⟩ = some (.string x171001_4) := (blk_cell BK170.out 1).trans rfl
                                              have hfz71_0 := blk_frozen BK170.out 0
                                              have hfz71_1 := blk_frozen BK170.out 1
                                              go_wp2
                                              refine bodyPost_ret (results_cell_row rfl _ _ gb170 31 #[.int .i64 1, .string (⟨#[]⟩ : ByteArray)] (0, 0) _ rfl (by (with_reducible repeat (first | refine blk_drewN ?_ _ | refine blk_drew ?_ | refine blk_alloc ?_ _)); refine blk_put (cs := #[.int .i64 1, .string x171001_4]) ?_ 1 _ rfl; (with_reducible repeat (first | refine blk_drewN ?_ _ | refine blk_drew ?_ | refine blk_alloc ?_ _)); refine blk_put (cs := #[.int .i64 x171000_4, .string x171001_4]) ?_ 0 _ rfl; (with_reducible repeat (first | refine blk_drewN ?_ _ | refine blk_drew ?_ | refine blk_alloc ?_ _)); exact BK170.out) Try.underlying31 rfl (by kernel_rfl)) rfl ?_
                                              exact ⟨by first | rfl | (simp [errW_none, errW_some] <;> rfl) | (simp [*, errW_none, errW_some] <;> rfl), by repeat (first | (with_reducible first | exact HB.out | apply below_alloc | apply pw_below_drewN | apply below_drew1 | refine below_set ?_ GE170.out | refine below_set ?_ GE171.out) | exact HB.out)⟩
                                            · rw [if_neg c68] at H
                                              have c68b0 : decide ((rd y189 x73_4) < 10) = false := decide_eq_false c68
                                              clear c68
                                              have H' := Aside0.mk H
                                              clear H
                                              go_wp2
                                              go_roundg kj47
                                              case measure => have := HJ3.out; have := HK2.out; have := HJ29.out; have := HK4.out; have := HJ47.out; omega
                                              case rel => exact ⟨(x12_4), (wrap64 (x73_4 + 1)), (x171000_4), (x171001_4), (by first | rfl | (simp; done) | (simp [*]; done)), (by first | rfl | (simp; done) | (simp [*]; done)), H', ⟨by have := HJ3.out; have := HK2.out; have := HJ29.out; have := HK4.out; have := HJ47.out; omega⟩, ⟨by (with_reducible repeat (first | refine blk_drewN ?_ _ | refine blk_drew ?_ | refine blk_alloc ?_ _)); exact BK170.out⟩, ⟨by (with_reducible repeat (first | refine blk_drewN ?_ _ | refine blk_drew ?_ | refine blk_alloc ?_ _)); exact BK171.out⟩, ⟨by repeat (first | (with_reducible exact HR192.out) | (with_reducible refine Kd.C_alloc ?_ _) | (with_reducible refine Kd.C_drewN ?_ _) | (with_reducible refine Kd.C_drew ?_) | exact HR192.out)⟩, ⟨by repeat (first | (with_reducible first | exact HB.out | apply below_alloc | apply pw_below_drewN | apply below_drew1 | refine below_set ?_ GE170.out | refine below_set ?_ GE171.out) | exact HB.out)⟩⟩
                                · rw [if_neg c47] at H
                                  exact absurd H (by simp)
                              · rw [if_neg c46] at H
                                exact absurd H (by simp)
                            · rw [if_neg c45] at H
                              have c45b0 : decide (x73_4 < (y189.length : Int)) = false := decide_eq_false c45
                              clear c45
                              simp only [Option.some.injEq, Prod.mk.injEq] at H
                              obtain ⟨rfl, rfl⟩ := H
                              have hnb72 := NB170_171.out
                              have hnc72 := NB171_170.out
                              have hcz73_0 : wr.cell? ⟨gb170, 0, none⟩ = some (.int .i64 x171000_4) := (blk_cell BK170.out 0).trans rfl
                              have hcz73_1 : wr.cell? ⟨gb170, 1, none⟩ = some (.string x171001_4) := (blk_cell BK170.out 1).trans rfl
                              have hfz73_0 := blk_frozen BK170.out 0
                              have hfz73_1 := blk_frozen BK170.out 1
                              go_wp2
                              refine bodyPost_ret (results_cell_row rfl _ _ gb170 31 #[.int .i64 0, .string x12_4] (0, 0) _ rfl (by (with_reducible repeat (first | refine blk_drewN ?_ _ | refine blk_drew ?_ | refine blk_alloc ?_ _)); refine blk_put (cs := #[.int .i64 0, .string x171001_4]) ?_ 1 _ rfl; (with_reducible repeat (first | refine blk_drewN ?_ _ | refine blk_drew ?_ | refine blk_alloc ?_ _)); refine blk_put (cs := #[.int .i64 x171000_4, .string x171001_4]) ?_ 0 _ rfl; (with_reducible repeat (first | refine blk_drewN ?_ _ | refine blk_drew ?_ | refine blk_alloc ?_ _)); exact BK170.out) Try.underlying31 rfl (by kernel_rfl)) rfl ?_
                              exact ⟨by first | rfl | (simp [errW_none, errW_some] <;> rfl) | (simp [*, errW_none, errW_some] <;> rfl), by repeat (first | (with_reducible first | exact HB.out | apply below_alloc | apply pw_below_drewN | apply below_drew1 | refine below_set ?_ GE170.out | refine below_set ?_ GE171.out) | exact HB.out)⟩
                      · rw [if_neg c43] at H
                        exact absurd H (by simp)
              · rw [if_neg c29] at H
                exact absurd H (by simp)

end Go.Proofs.Ytiejallnkgllnaa.LPin
