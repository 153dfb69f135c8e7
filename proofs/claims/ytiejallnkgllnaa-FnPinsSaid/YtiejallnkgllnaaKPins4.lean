/- Texts of this session and of the kit's print, put together by a program; what this claim does not use is left out. -/
import Derived.Test.YtiejallnkgllnaaKPins3
import Derived.KernelRfl
namespace Go.Proofs.Ytiejallnkgllnaa.LQ
open Go.RowKit Go.Proofs.YtiejallnkgllnaaW.PrintWords Go.Proofs.YtiejallnkgllnaaW.PrintLast Go.Proofs.YtiejallnkgllnaaW.PrintMore
attribute [local go_sem] max2_int min2_int max_two min_two max_three min_three max_four min_four   -- for this text's walks alone
set_option linter.unusedVariables false
set_option linter.unusedSimpArgs false

mutual
def spec_l1Mix.l0 : Nat → List Int → List Int → List Int → Int → Option (List Int)
  | 0, _, _, _, _ => none
  | k + 1, x0, x1, x5, x6 => if x6 < 4 then (spec_l1Mix.l1 k x0 x1 x5 x6 0) else (some x5)
def spec_l1Mix.l1 : Nat → List Int → List Int → List Int → Int → Int → Option (List Int)
  | 0, _, _, _, _, _ => none
  | k + 1, x0, x1, x5, x6, x7 => if x7 < 4 then (spec_l1Mix.l2 k x0 x1 x5 x6 x7 0) else (spec_l1Mix.l0 k x0 x1 x5 (wrap64 (x6 + 1)))
def spec_l1Mix.l2 : Nat → List Int → List Int → List Int → Int → Int → Int → Option (List Int)
  | 0, _, _, _, _, _, _ => none
  | k + 1, x0, x1, x5, x6, x7, x8 => if x8 < 4 then (if 0 ≤ (wrap64 ((wrap64 (4 * x6)) + x7)) then (if (wrap64 ((wrap64 (4 * x6)) + x7)) < (x5.length : Int) then (if 0 ≤ (wrap64 ((wrap64 (4 * x6)) + x8)) then (if (wrap64 ((wrap64 (4 * x6)) + x8)) < (x0.length : Int) then (if 0 ≤ (Int.tmod (wrap64 ((wrap64 (x8 - x7)) + 4)) 4) then (if (Int.tmod (wrap64 ((wrap64 (x8 - x7)) + 4)) 4) < (x1.length : Int) then ((spec_l1Mul.f k (rd x0 (wrap64 ((wrap64 (4 * x6)) + x8))) (rd x1 (Int.tmod (wrap64 ((wrap64 (x8 - x7)) + 4)) 4))).bind fun t398 => (spec_l1Mix.l2 k x0 x1 (x5.set ((wrap64 ((wrap64 (4 * x6)) + x7)) : Int).toNat (Go.bits .xor .u8 (rd x5 (wrap64 ((wrap64 (4 * x6)) + x7))) t398)) x6 x7 (wrap64 (x8 + 1)))) else (none)) else (none)) else (none)) else (none)) else (none)) else (none)) else (spec_l1Mix.l1 k x0 x1 x5 x6 (wrap64 (x7 + 1)))
end
def spec_l1Mix.f (k : Nat) (l0 : List Int) (l1 : List Int) : Option (List Int) := if 16 ≤ 281474976710656 then (spec_l1Mix.l0 k l0 l1 (List.replicate 16 0) 0) else (none)
def spec_l1Mix.T11 : Bool × List (List Nat × List Nat) := (true, [([], []), ([], []), ([1], [1]), ([], []), ([2, 3], [2, 3]), ([0, 4], [0, 4]), ([5], [5]), ([], []), ([], []), ([8], [8]), ([], []), ([9, 10], [9, 10]), ([7, 11], [7, 11]), ([12], [12]), ([], []), ([], []), ([], []), ([15, 16], [15, 16]), ([17], [17]), ([18], [18]), ([14, 19], [14, 19]), ([20], [20]), ([13, 21], [13, 21]), ([6, 22], [6, 22]), ([0, 4, 0, 1, 2, 3, 4, 5, 6, 7, 8, 9, 10, 11, 12, 13, 14, 15, 16, 17, 18, 19, 20, 21, 22, 23], [0, 4]), ([24, 23, 22, 0, 1, 2, 3, 4, 5, 6, 7, 8, 9, 10, 11, 12, 13, 14, 15, 16, 17, 18, 19, 20, 21, 22, 23], [23, 24])])
def spec_l1Mix.B11 : List Nat := [0, 0, 2, 0, 14, 31, 63, 0, 0, 256, 0, 1792, 3968, 8064, 0, 0, 0, 98304, 229376, 491520, 1032192, 2080768, 4194176, 8388607, 16777215, 33554431]
theorem spec_l1Mix.tab11 : rtab .any (opsOf Try.f116 11) = spec_l1Mix.T11 := by kernel_rfl
theorem spec_l1Mix.bits11 : waitsOk spec_l1Mix.T11.2 spec_l1Mix.B11 = true := by kernel_rfl
set_option maxHeartbeats 8000000 in
set_option maxRecDepth 100000 in
theorem spec_l1Mix.calls (k : Nat) (A0 : Option Addr) (c0 : Nat) (l0 : List Int) (A1 : Option Addr) (c1 : Nat) (l1 : List Int) (r : List Int) (w : World) (hr0 : Kd.C (Kd.int .u8) w A0 l0.length l0) (hc0 : l0.length ≤ c0) (hr1 : Kd.C (Kd.int .u8) w A1 l1.length l1) (hc1 : l1.length ≤ c1) (h : spec_l1Mix.f k l0 l1 = some r) :
    Calls Try.prog 116 #[.slice A0 l0.length c0, .slice A1 l1.length c1] w fun e w' => ∃ v0_ : Value, e = .returned (v0_) ∧ Kd.R (Kd.int .u8) 5 w' w.heap.size (fun _ => True) v0_ r ∧ Below w.heap.size w w' := by
  have HR0 := Aside0.mk hr0
  have HC0 := Aside0.mk hc0
  clear hr0 hc0
  have HR1 := Aside0.mk hr1
  have HC1 := Aside0.mk hc1
  clear hr1 hc1
  have HB := Aside0.mk (Below.refl w.heap.size w)
  have H : (if 16 ≤ 281474976710656 then (spec_l1Mix.l0 k l0 l1 (List.replicate 16 0) 0) else (none)) = some r := h
  clear h
  by_cases c3 : 16 ≤ 281474976710656
  · rw [if_pos c3] at H
    have c3b0 := eq_true c3
    have c3b1 : decide (16 ≤ 281474976710656) = true := decide_eq_true c3
    clear c3
    obtain ⟨y392, hy392⟩ : ∃ y_ : List Int, y_ = (List.replicate 16 0) := ⟨_, rfl⟩
    replace H : (spec_l1Mix.l0 k l0 l1 y392 0) = some r := by first | (rw [hy392]; with_reducible exact H) | (have H2_ := (Option.bind_some _ _).symm.trans H; rw [hy392]; with_reducible exact H2_) | (have H2_ := (Option.bind_some _ _).symm.trans H; with_reducible exact H2_) | with_reducible exact H | (rw [hy392]; exact H) | exact H
    have Ny392 := Aside0.mk hy392
    clear hy392
    have H' := Aside0.mk H
    clear H
    go_enter Try.func116, Try.ntmps116
    go_wp2_with (first | ((with_reducible refine gate_dst (N := 9) rfl ?_); refine Kd.R_make (Kd.int .u8) _ 5 rfl (N := 9) rfl 29 _ _ rfl 16 rfl rfl Try.underlying29 (.int .u8 0) 1 info5 rfl (by decide) (by omega) 0 (ok := fun _ => True) (okp := fun _ => True) rfl (fun _ hk => hk) trivial (by omega) (by omega) (Below.refl _ _) (Nat.le_refl _) ?_; intro v393 w4 ho5 hb hg_ hnew_; clear hg_ hnew_; (first | rw [← Ny392.out] at ho5 | (simp only [Int.reduceToNat] at ho5; rw [← Ny392.out] at ho5)); have n0_ := Aside0.mk (Kd.R_lower ho5 (below_size (by repeat (first | (with_reducible first | exact HB.out | apply below_alloc | apply pw_below_drewN | apply below_drew1) | exact HB.out)))); have n1_ := Aside0.mk (below_step (by repeat (first | (with_reducible first | exact HB.out | apply below_alloc | apply pw_below_drewN | apply below_drew1) | exact HB.out)) hb); clear HB; have HO394 := n0_; have HB := n1_; clear n0_ n1_; clear hb ho5))
    go_loopg [6] k (fun kq v6 w' => ∃ (x5_1 : List Int) (x6_1 : Int), v6 = .int .i64 x6_1 ∧ Aside0 (spec_l1Mix.l0 kq l0 l1 x5_1 x6_1 = some r) ∧ Aside0 (kq ≤ k) ∧ Aside0 (Kd.R (Kd.int .u8) 5 w' w.heap.size (fun _ => True) v393 x5_1) ∧ Aside0 (Below w.heap.size w w'))
    case atStart => exact ⟨(y392), (0), (by first | rfl | (simp; done) | (simp [*]; done)), H', ⟨Nat.le_refl _⟩, ⟨by (with_reducible repeat (first | apply Kd.R_alloc | apply Kd.R_drewN | apply Kd.R_drew)); exact HO394.out⟩, ⟨by repeat (first | (with_reducible first | exact HB.out | apply below_alloc | apply pw_below_drewN | apply below_drew1) | exact HB.out)⟩⟩
    case round =>
      clear H'
      try clear c1
      try clear p2
      try clear c3
      try clear c3b0
      try clear c3b1
      obtain ⟨x5_1, x6_1, rfl, HA, HK1, HO_5, HB⟩ := hrel
      cases gk with
      | zero => exact absurd HA.out (by simp [spec_l1Mix.l0])
      | succ k1 =>
        have H := HA.out
        clear HA
        simp only [spec_l1Mix.l0] at H
        by_cases c6 : x6_1 < 4
        · rw [if_pos c6] at H
          have c6b0 : decide (x6_1 < 4) = true := decide_eq_true c6
          clear c6
          have H' := Aside0.mk H
          clear H
          go_wp2
          go_loopg [7] k1 (fun kq v7 w' => ∃ (x5_2 : List Int) (x7_2 : Int), v7 = .int .i64 x7_2 ∧ Aside0 (spec_l1Mix.l1 kq l0 l1 x5_2 x6_1 x7_2 = some r) ∧ Aside0 (kq ≤ k1) ∧ Aside0 (Kd.R (Kd.int .u8) 5 w' w.heap.size (fun _ => True) v393 x5_2) ∧ Aside0 (Below w.heap.size w w'))
          case atStart => exact ⟨(x5_1), (0), (by first | rfl | (simp; done) | (simp [*]; done)), H', ⟨Nat.le_refl _⟩, ⟨by (with_reducible repeat (first | apply Kd.R_alloc | apply Kd.R_drewN | apply Kd.R_drew)); exact HO_5.out⟩, ⟨by repeat (first | (with_reducible first | exact HB.out | apply below_alloc | apply pw_below_drewN | apply below_drew1) | exact HB.out)⟩⟩
          case round =>
            clear H'
            try clear c1
            try clear p2
            try clear c3
            try clear c3b0
            try clear c3b1
            try clear c6
            try clear c6b0
            try clear p2
            obtain ⟨x5_2, x7_2, rfl, HA, HK2, HO_5, HB⟩ := hrel
            cases gk with
            | zero => exact absurd HA.out (by simp [spec_l1Mix.l1])
            | succ k2 =>
              have H := HA.out
              clear HA
              simp only [spec_l1Mix.l1] at H
              by_cases c7 : x7_2 < 4
              · rw [if_pos c7] at H
                have c7b0 : decide (x7_2 < 4) = true := decide_eq_true c7
                clear c7
                have H' := Aside0.mk H
                clear H
                go_wp2
                go_loopg [8] k2 (fun kq v8 w' => ∃ (x5_3 : List Int) (x8_3 : Int), v8 = .int .i64 x8_3 ∧ Aside0 (spec_l1Mix.l2 kq l0 l1 x5_3 x6_1 x7_2 x8_3 = some r) ∧ Aside0 (kq ≤ k2) ∧ Aside0 (Kd.R (Kd.int .u8) 5 w' w.heap.size (fun _ => True) v393 x5_3) ∧ Aside0 (Below w.heap.size w w'))
                case atStart => exact ⟨(x5_2), (0), (by first | rfl | (simp; done) | (simp [*]; done)), H', ⟨Nat.le_refl _⟩, ⟨by (with_reducible repeat (first | apply Kd.R_alloc | apply Kd.R_drewN | apply Kd.R_drew)); exact HO_5.out⟩, ⟨by repeat (first | (with_reducible first | exact HB.out | apply below_alloc | apply pw_below_drewN | apply below_drew1) | exact HB.out)⟩⟩
                case round =>
                  clear H'
                  try clear c1
                  try clear p2
                  try clear c3
                  try clear c3b0
                  try clear c3b1
                  try clear c6
                  try clear c6b0
                  try clear c7
                  try clear c7b0
                  try clear p2
                  obtain ⟨x5_3, x8_3, rfl, HA, HK3, HO_5, HB⟩ := hrel
                  cases gk with
                  | zero => exact absurd HA.out (by simp [spec_l1Mix.l2])
                  | succ k3 =>
                    have H := HA.out
                    clear HA
                    simp only [spec_l1Mix.l2] at H
                    by_cases c8 : x8_3 < 4
                    · rw [if_pos c8] at H
                      have c8b0 : decide (x8_3 < 4) = true := decide_eq_true c8
                      clear c8
                      obtain ⟨ji9, hji9⟩ : ∃ j_ : Int, (wrap64 ((wrap64 (4 * x6_1)) + x7_2)) = j_ := ⟨_, rfl⟩
                      replace H : (if 0 ≤ (ji9) then (if (ji9) < (x5_3.length : Int) then (if 0 ≤ (wrap64 ((wrap64 (4 * x6_1)) + x8_3)) then (if (wrap64 ((wrap64 (4 * x6_1)) + x8_3)) < (l0.length : Int) then (if 0 ≤ (Int.tmod (wrap64 ((wrap64 (x8_3 - x7_2)) + 4)) 4) then (if (Int.tmod (wrap64 ((wrap64 (x8_3 - x7_2)) + 4)) 4) < (l1.length : Int) then ((spec_l1Mul.f k3 (rd l0 (wrap64 ((wrap64 (4 * x6_1)) + x8_3))) (rd l1 (Int.tmod (wrap64 ((wrap64 (x8_3 - x7_2)) + 4)) 4))).bind fun t398 => (spec_l1Mix.l2 k3 l0 l1 (x5_3.set ((ji9) : Int).toNat (Go.bits .xor .u8 (rd x5_3 (ji9)) t398)) x6_1 x7_2 (wrap64 (x8_3 + 1)))) else (none)) else (none)) else (none)) else (none)) else (none)) else (none)) = some r := by first | (rw [hji9] at H; exact H) | (simp only [hji9] at H ⊢; exact H)
                      have hji9w : (IntKind.i64.wrap ((wrap64 (4 * x6_1)) + x7_2)) = ji9 := (i64_w _).trans hji9
                      by_cases c10 : 0 ≤ (ji9)
                      · rw [if_pos c10] at H
                        have c10b0 : decide (0 ≤ (ji9)) = true := decide_eq_true c10
                        clear c10
                        by_cases c11 : (ji9) < (x5_3.length : Int)
                        · rw [if_pos c11] at H
                          have c11b0 : decide ((ji9) < (x5_3.length : Int)) = true := decide_eq_true c11
                          clear c11
                          obtain ⟨ji12, hji12⟩ : ∃ j_ : Int, (wrap64 ((wrap64 (4 * x6_1)) + x8_3)) = j_ := ⟨_, rfl⟩
                          replace H : (if 0 ≤ (ji12) then (if (ji12) < (l0.length : Int) then (if 0 ≤ (Int.tmod (wrap64 ((wrap64 (x8_3 - x7_2)) + 4)) 4) then (if (Int.tmod (wrap64 ((wrap64 (x8_3 - x7_2)) + 4)) 4) < (l1.length : Int) then ((spec_l1Mul.f k3 (rd l0 (ji12)) (rd l1 (Int.tmod (wrap64 ((wrap64 (x8_3 - x7_2)) + 4)) 4))).bind fun t398 => (spec_l1Mix.l2 k3 l0 l1 (x5_3.set ((ji9) : Int).toNat (Go.bits .xor .u8 (rd x5_3 (ji9)) t398)) x6_1 x7_2 (wrap64 (x8_3 + 1)))) else (none)) else (none)) else (none)) else (none)) = some r := by first | (rw [hji12] at H; exact H) | (simp only [hji12] at H ⊢; exact H)
                          have hji12w : (IntKind.i64.wrap ((wrap64 (4 * x6_1)) + x8_3)) = ji12 := (i64_w _).trans hji12
                          by_cases c13 : 0 ≤ (ji12)
                          · rw [if_pos c13] at H
                            have c13b0 : decide (0 ≤ (ji12)) = true := decide_eq_true c13
                            clear c13
                            by_cases c14 : (ji12) < (l0.length : Int)
                            · rw [if_pos c14] at H
                              have c14b0 : decide ((ji12) < (l0.length : Int)) = true := decide_eq_true c14
                              clear c14
                              obtain ⟨ji15, hji15⟩ : ∃ j_ : Int, (Int.tmod (wrap64 ((wrap64 (x8_3 - x7_2)) + 4)) 4) = j_ := ⟨_, rfl⟩
                              replace H : (if 0 ≤ (ji15) then (if (ji15) < (l1.length : Int) then ((spec_l1Mul.f k3 (rd l0 (ji12)) (rd l1 (ji15))).bind fun t398 => (spec_l1Mix.l2 k3 l0 l1 (x5_3.set ((ji9) : Int).toNat (Go.bits .xor .u8 (rd x5_3 (ji9)) t398)) x6_1 x7_2 (wrap64 (x8_3 + 1)))) else (none)) else (none)) = some r := by first | (rw [hji15] at H; exact H) | (simp only [hji15] at H ⊢; exact H)
                              by_cases c16 : 0 ≤ (ji15)
                              · rw [if_pos c16] at H
                                have c16b0 : decide (0 ≤ (ji15)) = true := decide_eq_true c16
                                clear c16
                                by_cases c17 : (ji15) < (l1.length : Int)
                                · rw [if_pos c17] at H
                                  have c17b0 : decide ((ji15) < (l1.length : Int)) = true := decide_eq_true c17
                                  clear c17
                                  replace H := Option.bind_eq_some_iff.mp H
                                  obtain ⟨t398, A180, H⟩ := H
                                  replace H : (spec_l1Mix.l2 k3 l0 l1 (x5_3.set ((ji9) : Int).toNat (Go.bits .xor .u8 (rd x5_3 (ji9)) t398)) x6_1 x7_2 (wrap64 (x8_3 + 1))) = some r := H
                                  have A18 := Aside0.mk A180
                                  clear A180
                                  obtain ⟨y399, hy399⟩ : ∃ y_ : List Int, y_ = (x5_3.set ((ji9) : Int).toNat (Go.bits .xor .u8 (rd x5_3 (ji9)) t398)) := ⟨_, rfl⟩
                                  replace H : (spec_l1Mix.l2 k3 l0 l1 y399 x6_1 x7_2 (wrap64 (x8_3 + 1))) = some r := by first | (rw [hy399]; with_reducible exact H) | (have H2_ := (Option.bind_some _ _).symm.trans H; rw [hy399]; with_reducible exact H2_) | (have H2_ := (Option.bind_some _ _).symm.trans H; with_reducible exact H2_) | with_reducible exact H | (rw [hy399]; exact H) | exact H
                                  have Ny399 := Aside0.mk hy399
                                  clear hy399
                                  have H' := Aside0.mk H
                                  clear H
                                  try go_wp2
                                  have n0_ := Aside0.mk (Kd.R_drew HO_5.out)
                                  have n1_ := Aside0.mk (below_drew1 HB.out)
                                  clear HO_5
                                  clear HB
                                  have HO_5 := n0_
                                  have HB := n1_
                                  clear n0_ n1_
                                  obtain ⟨Ao21, co21, eo21⟩ := Kd.R_slice HO_5.out
                                  (first | subst eo21 | (injection eo21 with f1_ f2_ f3_; have f4_ := f1_.symm; have f5_ := f3_.symm; clear f1_ f2_ f3_; subst f4_; subst f5_))
                                  have p395 : 0 ≤ ((ji9) : Int) := of_decide_eq_true (by first | (with_reducible assumption) | assumption)
                                  have q395 : (ji9) < (x5_3.length : Int) := of_decide_eq_true (by first | (with_reducible assumption) | assumption)
                                  obtain ⟨ad395, e395, hx395_0⟩ := Kd.at_int (Kd.R_reads' HO_5.out).2.2 (ji9) p395 q395
                                  cases e395
                                  replace p395 := eq_true p395
                                  replace q395 := eq_true q395
                                  have p396 : 0 ≤ ((ji12) : Int) := of_decide_eq_true (by first | (with_reducible assumption) | assumption)
                                  have q396 : (ji12) < (l0.length : Int) := of_decide_eq_true (by first | (with_reducible assumption) | assumption)
                                  obtain ⟨ad396, e396, hx396_0⟩ := Kd.at_int HR0.out (ji12) p396 q396
                                  have hw396_0 := hx396_0
                                  cases e396
                                  replace hx396_0 := (HB.out.cell (World.block_lt_of_cell? w _ hx396_0)).trans hx396_0
                                  replace p396 := eq_true p396
                                  replace q396 := eq_true q396
                                  have p397 : 0 ≤ ((ji15) : Int) := of_decide_eq_true (by first | (with_reducible assumption) | assumption)
                                  have q397 : (ji15) < (l1.length : Int) := of_decide_eq_true (by first | (with_reducible assumption) | assumption)
                                  obtain ⟨ad397, e397, hx397_0⟩ := Kd.at_int HR1.out (ji15) p397 q397
                                  have hw397_0 := hx397_0
                                  cases e397
                                  replace hx397_0 := (HB.out.cell (World.block_lt_of_cell? w _ hx397_0)).trans hx397_0
                                  replace p397 := eq_true p397
                                  replace q397 := eq_true q397
                                  refine start_ (n := 26) (S := fun w' => w'.cell? (ad395.add ((ji9)).toNat) = some (.int .u8 (rd x5_3 (ji9))) ∧ w'.cell? (ad396.add ((ji12)).toNat) = some (.int .u8 (rd l0 (ji12))) ∧ w'.cell? (ad397.add ((ji15)).toNat) = some (.int .u8 (rd l1 (ji15)))) (ds := [25]) #[false, false, false, false, false, false, false, false, false, false, false, false, false, false, false, false, false, false, false, false, false, false, false, false, false, false] (by kernel_rfl) rfl rfl ⟨hx395_0, ((HB.out.cell (World.block_lt_of_cell? w _ hw396_0)).trans hw396_0), ((HB.out.cell (World.block_lt_of_cell? w _ hw397_0)).trans hw397_0)⟩ (fun hHeld => ?_); refine with_tabW spec_l1Mix.tab11 spec_l1Mix.bits11 (fun HT_ HW_ => ?_)
                                  generalize wr.drew = w20 at HO_5 HB hx395_0 hx396_0 hx397_0 hHeld ⊢
                                  refine pure_ (i := 0) (N := some 22) (v := ?_) (a' := ?_) #[true, false, false, false, false, false, false, false, false, false, false, false, false, false, false, false, false, false, false, false, false, false, false, false, false, false] rfl rfl (any_of HT_.out (by kernel_rfl)) (fun _ _ _ h => h) (Or.inl ⟨by rfl, ?_⟩) ?_ ?_
                                  rotate_left
                                  · intro w'
                                    go_simp
                                    with_reducible rfl
                                  rotate_left
                                  · simp only [Act.put, List.setIfInBounds_toArray, List.set_cons_zero, List.set_cons_succ, i64_w, i32_w]
                                    rfl
                                  refine pure_ (i := 1) (N := some 23) (v := ?_) (a' := ?_) #[true, true, false, false, false, false, false, false, false, false, false, false, false, false, false, false, false, false, false, false, false, false, false, false, false, false] rfl rfl (any_of HT_.out (by kernel_rfl)) (fun _ _ _ h => h) (Or.inl ⟨by rfl, ?_⟩) ?_ ?_
                                  rotate_left
                                  · intro w'
                                    go_simp
                                    with_reducible rfl
                                  rotate_left
                                  · simp only [Act.put, List.setIfInBounds_toArray, List.set_cons_zero, List.set_cons_succ, i64_w, i32_w]
                                    rfl
                                  refine pure_ (i := 2) (N := some 24) (v := ?_) (a' := ?_) #[true, true, true, false, false, false, false, false, false, false, false, false, false, false, false, false, false, false, false, false, false, false, false, false, false, false] rfl rfl (any_of HT_.out (by kernel_rfl)) (fun _ _ _ h => h) (Or.inl ⟨by rfl, ?_⟩) ?_ ?_
                                  rotate_left
                                  · intro w'
                                    go_simp
                                    with_reducible rfl
                                  rotate_left
                                  · simp only [Act.put, List.setIfInBounds_toArray, List.set_cons_zero, List.set_cons_succ, i64_w, i32_w]
                                    rfl
                                  refine pure_ (i := 3) (N := some 25) (v := ?_) (a' := ?_) #[true, true, true, true, false, false, false, false, false, false, false, false, false, false, false, false, false, false, false, false, false, false, false, false, false, false] rfl rfl (any_of HT_.out (by kernel_rfl)) (fun _ _ _ h => h) (Or.inl ⟨by rfl, ?_⟩) ?_ ?_
                                  rotate_left
                                  · intro w'
                                    go_simp
                                    with_reducible rfl
                                  rotate_left
                                  · simp only [Act.put, List.setIfInBounds_toArray, List.set_cons_zero, List.set_cons_succ, i64_w, i32_w]
                                    rfl
                                  refine pure_ (i := 4) (N := some 26) (v := ?_) (a' := ?_) #[true, true, true, true, true, false, false, false, false, false, false, false, false, false, false, false, false, false, false, false, false, false, false, false, false, false] rfl rfl (any_of HT_.out (by kernel_rfl)) (fun _ _ _ h => h) (Or.inl ⟨by rfl, ?_⟩) ?_ ?_
                                  rotate_left
                                  · intro w'
                                    go_simp
                                    with_reducible rfl
                                  rotate_left
                                  · simp only [Act.put, List.setIfInBounds_toArray, List.set_cons_zero, List.set_cons_succ, i64_w, i32_w]
                                    rfl
                                  refine pure_ (i := 5) (N := some 27) (v := ?_) (a' := ?_) #[true, true, true, true, true, true, false, false, false, false, false, false, false, false, false, false, false, false, false, false, false, false, false, false, false, false] rfl rfl (any_of HT_.out (by kernel_rfl)) (fun _ _ _ h => h) (Or.inl ⟨by rfl, ?_⟩) ?_ ?_
                                  rotate_left
                                  · intro w'
                                    go_simp
                                    with_reducible rfl
                                  rotate_left
                                  · simp only [Act.put, List.setIfInBounds_toArray, List.set_cons_zero, List.set_cons_succ, i64_w, i32_w]
                                    rfl
                                  refine pure_ (i := 7) (N := some 29) (v := ?_) (a' := ?_) #[true, true, true, true, true, true, false, true, false, false, false, false, false, false, false, false, false, false, false, false, false, false, false, false, false, false] rfl rfl (any_of HT_.out (by kernel_rfl)) (fun _ _ _ h => h) (Or.inl ⟨by rfl, ?_⟩) ?_ ?_
                                  rotate_left
                                  · intro w'
                                    go_simp
                                    with_reducible rfl
                                  rotate_left
                                  · simp only [Act.put, List.setIfInBounds_toArray, List.set_cons_zero, List.set_cons_succ, i64_w, i32_w]
                                    rfl
                                  refine pure_ (i := 8) (N := some 30) (v := ?_) (a' := ?_) #[true, true, true, true, true, true, false, true, true, false, false, false, false, false, false, false, false, false, false, false, false, false, false, false, false, false] rfl rfl (any_of HT_.out (by kernel_rfl)) (fun _ _ _ h => h) (Or.inl ⟨by rfl, ?_⟩) ?_ ?_
                                  rotate_left
                                  · intro w'
                                    go_simp
                                    with_reducible rfl
                                  rotate_left
                                  · simp only [Act.put, List.setIfInBounds_toArray, List.set_cons_zero, List.set_cons_succ, i64_w, i32_w]
                                    rfl
                                  refine pure_ (i := 9) (N := some 31) (v := ?_) (a' := ?_) #[true, true, true, true, true, true, false, true, true, true, false, false, false, false, false, false, false, false, false, false, false, false, false, false, false, false] rfl rfl (any_of HT_.out (by kernel_rfl)) (fun _ _ _ h => h) (Or.inl ⟨by rfl, ?_⟩) ?_ ?_
                                  rotate_left
                                  · intro w'
                                    go_simp
                                    with_reducible rfl
                                  rotate_left
                                  · simp only [Act.put, List.setIfInBounds_toArray, List.set_cons_zero, List.set_cons_succ, i64_w, i32_w]
                                    rfl
                                  refine pure_ (i := 10) (N := some 32) (v := ?_) (a' := ?_) #[true, true, true, true, true, true, false, true, true, true, true, false, false, false, false, false, false, false, false, false, false, false, false, false, false, false] rfl rfl (any_of HT_.out (by kernel_rfl)) (fun _ _ _ h => h) (Or.inl ⟨by rfl, ?_⟩) ?_ ?_
                                  rotate_left
                                  · intro w'
                                    go_simp
                                    with_reducible rfl
                                  rotate_left
                                  · simp only [Act.put, List.setIfInBounds_toArray, List.set_cons_zero, List.set_cons_succ, i64_w, i32_w]
                                    rfl
                                  refine pure_ (i := 11) (N := some 33) (v := ?_) (a' := ?_) #[true, true, true, true, true, true, false, true, true, true, true, true, false, false, false, false, false, false, false, false, false, false, false, false, false, false] rfl rfl (any_of HT_.out (by kernel_rfl)) (fun _ _ _ h => h) (Or.inl ⟨by rfl, ?_⟩) ?_ ?_
                                  rotate_left
                                  · intro w'
                                    go_simp
                                    with_reducible rfl
                                  rotate_left
                                  · simp only [Act.put, List.setIfInBounds_toArray, List.set_cons_zero, List.set_cons_succ, i64_w, i32_w]
                                    rfl
                                  refine pure_ (i := 12) (N := some 34) (v := ?_) (a' := ?_) #[true, true, true, true, true, true, false, true, true, true, true, true, true, false, false, false, false, false, false, false, false, false, false, false, false, false] rfl rfl (any_of HT_.out (by kernel_rfl)) (fun _ _ _ h => h) (Or.inl ⟨by rfl, ?_⟩) ?_ ?_
                                  rotate_left
                                  · intro w'
                                    go_simp
                                    with_reducible rfl
                                  rotate_left
                                  · simp only [Act.put, List.setIfInBounds_toArray, List.set_cons_zero, List.set_cons_succ, i64_w, i32_w]
                                    rfl
                                  refine pure_ (i := 14) (N := some 36) (v := ?_) (a' := ?_) #[true, true, true, true, true, true, false, true, true, true, true, true, true, false, true, false, false, false, false, false, false, false, false, false, false, false] rfl rfl (any_of HT_.out (by kernel_rfl)) (fun _ _ _ h => h) (Or.inl ⟨by rfl, ?_⟩) ?_ ?_
                                  rotate_left
                                  · intro w'
                                    go_simp
                                    with_reducible rfl
                                  rotate_left
                                  · simp only [Act.put, List.setIfInBounds_toArray, List.set_cons_zero, List.set_cons_succ, i64_w, i32_w]
                                    rfl
                                  refine pure_ (i := 15) (N := some 37) (v := ?_) (a' := ?_) #[true, true, true, true, true, true, false, true, true, true, true, true, true, false, true, true, false, false, false, false, false, false, false, false, false, false] rfl rfl (any_of HT_.out (by kernel_rfl)) (fun _ _ _ h => h) (Or.inl ⟨by rfl, ?_⟩) ?_ ?_
                                  rotate_left
                                  · intro w'
                                    go_simp
                                    with_reducible rfl
                                  rotate_left
                                  · simp only [Act.put, List.setIfInBounds_toArray, List.set_cons_zero, List.set_cons_succ, i64_w, i32_w]
                                    rfl
                                  refine pure_ (i := 16) (N := some 38) (v := ?_) (a' := ?_) #[true, true, true, true, true, true, false, true, true, true, true, true, true, false, true, true, true, false, false, false, false, false, false, false, false, false] rfl rfl (any_of HT_.out (by kernel_rfl)) (fun _ _ _ h => h) (Or.inl ⟨by rfl, ?_⟩) ?_ ?_
                                  rotate_left
                                  · intro w'
                                    go_simp
                                    with_reducible rfl
                                  rotate_left
                                  · simp only [Act.put, List.setIfInBounds_toArray, List.set_cons_zero, List.set_cons_succ, i64_w, i32_w]
                                    rfl
                                  refine pure_ (i := 17) (N := some 39) (v := ?_) (a' := ?_) #[true, true, true, true, true, true, false, true, true, true, true, true, true, false, true, true, true, true, false, false, false, false, false, false, false, false] rfl rfl (any_of HT_.out (by kernel_rfl)) (fun _ _ _ h => h) (Or.inl ⟨by rfl, ?_⟩) ?_ ?_
                                  rotate_left
                                  · intro w'
                                    go_simp
                                    with_reducible rfl
                                  rotate_left
                                  · simp only [Act.put, List.setIfInBounds_toArray, List.set_cons_zero, List.set_cons_succ, i64_w, i32_w]
                                    rfl
                                  refine pure_ (i := 18) (N := some 40) (v := ?_) (a' := ?_) #[true, true, true, true, true, true, false, true, true, true, true, true, true, false, true, true, true, true, true, false, false, false, false, false, false, false] rfl rfl (any_of HT_.out (by kernel_rfl)) (fun _ _ _ h => h) (Or.inl ⟨by rfl, ?_⟩) ?_ ?_
                                  rotate_left
                                  · intro w'
                                    go_simp
                                    with_reducible rfl
                                  rotate_left
                                  · simp only [Act.put, List.setIfInBounds_toArray, List.set_cons_zero, List.set_cons_succ, i64_w, i32_w]
                                    rfl
                                  refine pure_ (i := 19) (N := some 41) (v := ?_) (a' := ?_) #[true, true, true, true, true, true, false, true, true, true, true, true, true, false, true, true, true, true, true, true, false, false, false, false, false, false] rfl rfl (any_of HT_.out (by kernel_rfl)) (fun _ _ _ h => h) (Or.inl ⟨by rfl, ?_⟩) ?_ ?_
                                  rotate_left
                                  · intro w'
                                    go_simp
                                    with_reducible rfl
                                  rotate_left
                                  · simp only [Act.put, List.setIfInBounds_toArray, List.set_cons_zero, List.set_cons_succ, i64_w, i32_w]
                                    rfl
                                  refine pure_ (i := 20) (N := some 42) (v := ?_) (a' := ?_) #[true, true, true, true, true, true, false, true, true, true, true, true, true, false, true, true, true, true, true, true, true, false, false, false, false, false] rfl rfl (any_of HT_.out (by kernel_rfl)) (fun _ _ _ h => h) (Or.inl ⟨by rfl, ?_⟩) ?_ ?_
                                  rotate_left
                                  · intro w'
                                    go_simp
                                    with_reducible rfl
                                  rotate_left
                                  · simp only [Act.put, List.setIfInBounds_toArray, List.set_cons_zero, List.set_cons_succ, i64_w, i32_w]
                                    rfl
                                  refine take_ (i := 6) (N := some 28) (v := ?_) (a' := ?_) #[true, true, true, true, true, true, true, true, true, true, true, true, true, false, true, true, true, true, true, true, true, false, false, false, false, false] rfl rfl (take_ofW HT_.out HW_.out (by kernel_rfl)) (fun _ _ _ h => h) (Or.inl ⟨by rfl, ?_⟩) hHeld ?_ ?_
                                  rotate_left
                                  · rintro w' ⟨s0, s1, s2⟩
                                    go_simp
                                    with_reducible rfl
                                  rotate_left
                                  · simp only [Act.put, List.setIfInBounds_toArray, List.set_cons_zero, List.set_cons_succ, i64_w, i32_w]
                                    rfl
                                  refine take_ (i := 13) (N := some 35) (v := ?_) (a' := ?_) #[true, true, true, true, true, true, true, true, true, true, true, true, true, true, true, true, true, true, true, true, true, false, false, false, false, false] rfl rfl (take_ofW HT_.out HW_.out (by kernel_rfl)) (fun _ _ _ h => h) (Or.inl ⟨by rfl, ?_⟩) hHeld ?_ ?_
                                  rotate_left
                                  · rintro w' ⟨s0, s1, s2⟩
                                    go_simp
                                    with_reducible rfl
                                  rotate_left
                                  · simp only [Act.put, List.setIfInBounds_toArray, List.set_cons_zero, List.set_cons_succ, i64_w, i32_w]
                                    rfl
                                  refine take_ (i := 21) (N := some 43) (v := ?_) (a' := ?_) #[true, true, true, true, true, true, true, true, true, true, true, true, true, true, true, true, true, true, true, true, true, true, false, false, false, false] rfl rfl (take_ofW HT_.out HW_.out (by kernel_rfl)) (fun _ _ _ h => h) (Or.inl ⟨by rfl, ?_⟩) hHeld ?_ ?_
                                  rotate_left
                                  · rintro w' ⟨s0, s1, s2⟩
                                    go_simp
                                    with_reducible rfl
                                  rotate_left
                                  · simp only [Act.put, List.setIfInBounds_toArray, List.set_cons_zero, List.set_cons_succ, i64_w, i32_w]
                                    rfl
                                  refine one_ (i := 22) (N := some 44) #[true, true, true, true, true, true, true, true, true, true, true, true, true, true, true, true, true, true, true, true, true, true, true, false, false, false] rfl rfl (one_of HT_.out (by kernel_rfl)) (by decide) (fun K hK => ?_)
                                  refine goes_ Try.func122 (by kernel_rfl) rfl #[.int .u8 (rd l0 (ji12)), .int .u8 (rd l1 (ji15))] (by rfl) rfl rfl (by (try simp only [List.map_toArray, List.map_cons, List.map_nil]); first | done | (simp only [hji12, hji15]; rfl) | rfl | (simp only [List.length_drop, List.length_take]; rfl)) ?_
                                  with_reducible refine (spec_l1Mul.calls k3 (rd l0 (ji12)) (rd l1 (ji15)) t398 _ A18.out).mono ?_
                                  rintro e w' ⟨rfl, ⟨nd, rfl⟩⟩
                                  refine ⟨_, rfl, ?_⟩
                                  have p19 : 0 ≤ ((ji9) : Int) := of_decide_eq_true (by first | (with_reducible assumption) | assumption)
                                  have q19 : ((ji9) : Int) < ((x5_3.length : Int) : Int) := of_decide_eq_true (by first | (with_reducible assumption) | assumption)
                                  obtain ⟨go19, co19, eo19, gb19, gl19, cl19, HG19⟩ := Kd.R_form HO_5.out (by omega)
                                  (first | cases eo19 | (injection eo19 with ea_ en_ ec_; (first | subst ea_ | (injection ea_ with ea_; subst ea_)); subst ec_; clear en_))
                                  have GB19 := Aside0.mk gb19
                                  have GG19 := Aside0.mk HG19
                                  clear gb19 gl19 HG19
                                  (first | simp only [add_plain] at hx395_0 | skip)
                                  obtain ⟨hx19_0, hf19_0⟩ := Kd.R_celln 0 HO_5.out ((ji9) : Int) p19 q19
                                  replace p19 := eq_true p19
                                  replace q19 := eq_true q19
                                  have HP22 := Kd.R_putn HO_5.out ((ji9) : Int) (Go.bits .xor .u8 (rd x5_3 (ji9)) t398)
                                  rw [← Ny399.out] at HP22
                                  have HQ22 := Aside0.mk HP22
                                  clear HP22
                                  refine hK.out _ _ ⟨hHeld.1, ((HB.out.cell (World.block_lt_of_cell? w _ hw396_0)).trans hw396_0), ((HB.out.cell (World.block_lt_of_cell? w _ hw397_0)).trans hw397_0)⟩ (fun hHeld => ?_)
                                  clear hK K
                                  refine norm_ (a' := ?_) ?_ ?_
                                  rotate_left
                                  · show Act.put _ (some 44) _ = _
                                    simp only [Act.put, List.setIfInBounds_toArray, List.set_cons_zero, List.set_cons_succ, i64_w, i32_w]
                                    rfl
                                  refine pure_ (i := 23) (N := some 45) (v := ?_) (a' := ?_) #[true, true, true, true, true, true, true, true, true, true, true, true, true, true, true, true, true, true, true, true, true, true, true, true, false, false] rfl rfl (any_of HT_.out (by kernel_rfl)) (fun _ _ _ h => h) (Or.inl ⟨by rfl, ?_⟩) ?_ ?_
                                  rotate_left
                                  · intro w'
                                    go_simp
                                    with_reducible rfl
                                  rotate_left
                                  · simp only [Act.put, List.setIfInBounds_toArray, List.set_cons_zero, List.set_cons_succ, i64_w, i32_w]
                                    rfl
                                  refine pure_ (i := 24) (N := some 46) (v := ?_) (a' := ?_) #[true, true, true, true, true, true, true, true, true, true, true, true, true, true, true, true, true, true, true, true, true, true, true, true, true, false] rfl rfl (any_of HT_.out (by kernel_rfl)) (fun _ _ _ h => h) (Or.inl ⟨by rfl, ?_⟩) ?_ ?_
                                  rotate_left
                                  · intro w'
                                    go_simp
                                    with_reducible rfl
                                  rotate_left
                                  · simp only [Act.put, List.setIfInBounds_toArray, List.set_cons_zero, List.set_cons_succ, i64_w, i32_w]
                                    rfl
                                  refine last_ (i := 25) (N := none) #[true, true, true, true, true, true, true, true, true, true, true, true, true, true, true, true, true, true, true, true, true, true, true, true, true, true] rfl rfl (one_of HT_.out (by kernel_rfl)) (by decide) (fun K hK => ?_)
                                  refine skip_ (w1 := ?_) (by rfl) rfl ?_ ?_
                                  rotate_left
                                  · go_simp
                                    rfl
                                  refine hK.out _ _ ?_
                                  clear hK K
                                  refine done_ (done_of HT_.out (by kernel_rfl)) ?_
                                  try go_wp2
                                  go_roundg k3
                                  case measure => have := HK1.out; have := HK2.out; have := HK3.out; omega
                                  case rel => exact ⟨(y399), (wrap64 (x8_3 + 1)), (by first | rfl | (simp; done) | (simp [*]; done)), H', ⟨by have := HK1.out; have := HK2.out; have := HK3.out; omega⟩, ⟨by (with_reducible repeat (first | apply Kd.R_alloc | apply Kd.R_drewN | apply Kd.R_drew)); exact HQ22.out⟩, ⟨by repeat (first | (with_reducible first | exact HB.out | apply below_alloc | apply pw_below_drewN | apply below_drew1 | refine below_set ?_ GB19.out) | exact HB.out)⟩⟩
                                · rw [if_neg c17] at H
                                  exact absurd H (by simp)
                              · rw [if_neg c16] at H
                                exact absurd H (by simp)
                            · rw [if_neg c14] at H
                              exact absurd H (by simp)
                          · rw [if_neg c13] at H
                            exact absurd H (by simp)
                        · rw [if_neg c11] at H
                          exact absurd H (by simp)
                      · rw [if_neg c10] at H
                        exact absurd H (by simp)
                    · rw [if_neg c8] at H
                      have c8b0 : decide (x8_3 < 4) = false := decide_eq_false c8
                      clear c8
                      have H' := Aside0.mk H
                      clear H
                      go_wp2
                      go_roundg k3
                      case measure => have := HK1.out; have := HK2.out; have := HK3.out; omega
                      case rel => exact ⟨(x5_3), (wrap64 (x7_2 + 1)), (by first | rfl | (simp; done) | (simp [*]; done)), H', ⟨by have := HK1.out; have := HK2.out; have := HK3.out; omega⟩, ⟨by (with_reducible repeat (first | apply Kd.R_alloc | apply Kd.R_drewN | apply Kd.R_drew)); exact HO_5.out⟩, ⟨by repeat (first | (with_reducible first | exact HB.out | apply below_alloc | apply pw_below_drewN | apply below_drew1) | exact HB.out)⟩⟩
              · rw [if_neg c7] at H
                have c7b0 : decide (x7_2 < 4) = false := decide_eq_false c7
                clear c7
                have H' := Aside0.mk H
                clear H
                go_wp2
                go_roundg k2
                case measure => have := HK1.out; have := HK2.out; omega
                case rel => exact ⟨(x5_2), (wrap64 (x6_1 + 1)), (by first | rfl | (simp; done) | (simp [*]; done)), H', ⟨by have := HK1.out; have := HK2.out; omega⟩, ⟨by (with_reducible repeat (first | apply Kd.R_alloc | apply Kd.R_drewN | apply Kd.R_drew)); exact HO_5.out⟩, ⟨by repeat (first | (with_reducible first | exact HB.out | apply below_alloc | apply pw_below_drewN | apply below_drew1) | exact HB.out)⟩⟩
        · rw [if_neg c6] at H
          have c6b0 : decide (x6_1 < 4) = false := decide_eq_false c6
          clear c6
          obtain rfl := Option.some.inj H
          go_wp2
          go_ret
          exact ⟨_, by first | rfl | (simp [errW_none, errW_some] <;> rfl) | (simp [*, errW_none, errW_some] <;> rfl), by (with_reducible repeat (first | apply Kd.R_alloc | apply Kd.R_drewN | apply Kd.R_drew)); exact HO_5.out, by repeat (first | (with_reducible first | exact HB.out | apply below_alloc | apply pw_below_drewN | apply below_drew1) | exact HB.out)⟩
  · rw [if_neg c3] at H
    exact absurd H (by simp)

end Go.Proofs.Ytiejallnkgllnaa.LQ
namespace Go.Proofs.Ytiejallnkgllnaa
open Go.RowKit Go.Proofs.YtiejallnkgllnaaW.PrintWords Go.Proofs.YtiejallnkgllnaaW.PrintLast Go.Proofs.YtiejallnkgllnaaW.PrintMore
set_option linter.unusedVariables false
def spec_l1Unaes.f (l0 l1 : List Int) : Option (List Int) := none
theorem spec_l1Unaes.calls (A0 : Option Addr) (c0 : Nat) (l0 : List Int) (A1 : Option Addr) (c1 : Nat) (l1 : List Int) (r : List Int) (w : World) (hr0 : Kd.C (Kd.int .u8) w A0 l0.length l0) (hc0 : l0.length ≤ c0) (hr1 : Kd.C (Kd.int .u8) w A1 l1.length l1) (hc1 : l1.length ≤ c1) (h : spec_l1Unaes.f l0 l1 = some r) :
    Calls Try.prog 113 #[.slice A0 l0.length c0, .slice A1 l1.length c1] w fun e w' => ∃ v0_ : Value, e = .returned (v0_) ∧ Kd.R (Kd.int .u8) 5 w' w.heap.size (fun _ => True) v0_ r ∧ Below w.heap.size w w' := by
  cases h
end Go.Proofs.Ytiejallnkgllnaa
namespace Go.Proofs.Ytiejallnkgllnaa.LQ
open Go.RowKit Go.Proofs.YtiejallnkgllnaaW.PrintWords Go.Proofs.YtiejallnkgllnaaW.PrintLast Go.Proofs.YtiejallnkgllnaaW.PrintMore
attribute [local go_sem] max2_int min2_int max_two min_two max_three min_three max_four min_four   -- for this text's walks alone
set_option linter.unusedVariables false
set_option linter.unusedSimpArgs false

mutual
def spec_Aes.j0 : Nat → List Int → List Int → Bool → Bool → Option (List Int)
  | 0, _, _, _, _ => none
  | k + 1, x0, x1, x2, x18 => if x18 = true then (some ([] : List Int)) else ((spec_l1Words.f k x0).bind fun t405 => (if x2 = true then ((spec_l1Unaes.f t405 x1).bind fun t408 => (some t408)) else (if 16 ≤ (t405.length : Int) then ((spec_l1Xor.f k x1 (t405.take 16)).bind fun t415 => (spec_Aes.l0 k t405 t415 1)) else (none))))
def spec_Aes.l0 : Nat → List Int → List Int → Int → Option (List Int)
  | 0, _, _, _ => none
  | k + 1, x7, x8, x9 => if x9 ≤ 10 then (spec_Aes.l1 k x7 x8 x9 (x8.length : Int) 0) else (some x8)
def spec_Aes.l1 : Nat → List Int → List Int → Int → Int → Int → Option (List Int)
  | 0, _, _, _, _, _ => none
  | k + 1, x7, x8, x9, x34, x35 => if x35 < x34 then (if 0 ≤ x35 then (if x35 < (x8.length : Int) then ((spec_l1Sub.f k (rd x8 x35)).bind fun t419 => (spec_Aes.l1 k x7 (x8.set (x35 : Int).toNat t419) x9 x34 (wrap64 (x35 + 1)))) else (none)) else (none)) else ((spec_l1Shift.f k x8 1).bind fun t421 => (if x9 < 10 then ((spec_l1Mix.f k t421 (([2, 3, 1, 1] : List Int))).bind fun t427 => (if 0 ≤ (wrap64 (16 * x9)) then (if (wrap64 (16 * x9)) ≤ (wrap64 ((wrap64 (16 * x9)) + 16)) then (if (wrap64 ((wrap64 (16 * x9)) + 16)) ≤ (x7.length : Int) then ((spec_l1Xor.f k t427 ((x7.take ((wrap64 ((wrap64 (16 * x9)) + 16)) : Int).toNat).drop ((wrap64 (16 * x9)) : Int).toNat)).bind fun t434 => (spec_Aes.l0 k x7 t434 (wrap64 (x9 + 1)))) else (none)) else (none)) else (none))) else (if 0 ≤ (wrap64 (16 * x9)) then (if (wrap64 (16 * x9)) ≤ (wrap64 ((wrap64 (16 * x9)) + 16)) then (if (wrap64 ((wrap64 (16 * x9)) + 16)) ≤ (x7.length : Int) then ((spec_l1Xor.f k t421 ((x7.take ((wrap64 ((wrap64 (16 * x9)) + 16)) : Int).toNat).drop ((wrap64 (16 * x9)) : Int).toNat)).bind fun t441 => (spec_Aes.l0 k x7 t441 (wrap64 (x9 + 1)))) else (none)) else (none)) else (none))))
end
def spec_Aes.f (k : Nat) (l0 : List Int) (l1 : List Int) (a2 : Bool) : Option (List Int) := if (l0.length : Int) = 16 then (spec_Aes.j0 k l0 l1 a2 ((l1.length : Int) != 16)) else (spec_Aes.j0 k l0 l1 a2 true)
set_option maxHeartbeats 8000000 in
set_option maxRecDepth 100000 in
theorem spec_Aes.calls (k : Nat) (A0 : Option Addr) (c0 : Nat) (l0 : List Int) (A1 : Option Addr) (c1 : Nat) (l1 : List Int) (a2 : Bool) (r : List Int) (w : World) (hr0 : Kd.C (Kd.int .u8) w A0 l0.length l0) (hc0 : l0.length ≤ c0) (hr1 : Kd.C (Kd.int .u8) w A1 l1.length l1) (hc1 : l1.length ≤ c1) (h : spec_Aes.f k l0 l1 a2 = some r) :
    Calls Try.prog 106 #[.slice A0 l0.length c0, .slice A1 l1.length c1, .bool a2] w fun e w' => ∃ v0_ : Value, e = .returned (v0_) ∧ Kd.R (Kd.int .u8) 5 w' w.heap.size (fun _ => True) v0_ r ∧ Below w.heap.size w w' := by
  have HR0 := Aside0.mk hr0
  have HC0 := Aside0.mk hc0
  clear hr0 hc0
  have HR1 := Aside0.mk hr1
  have HC1 := Aside0.mk hc1
  clear hr1 hc1
  have HB := Aside0.mk (Below.refl w.heap.size w)
  have H : (if (l0.length : Int) = 16 then (spec_Aes.j0 k l0 l1 a2 ((l1.length : Int) != 16)) else (spec_Aes.j0 k l0 l1 a2 true)) = some r := h
  clear h
  have HC4 := Aside0.mk H
  clear H
  go_enter Try.func106, Try.ntmps106
  go_upto_region 1 with (fail)
  go_cut [18] (fun v18 wc => ∃ (kq : Nat) (x18_3 : Bool), v18 = .bool x18_3 ∧ Aside0 (spec_Aes.j0 kq l0 l1 a2 x18_3 = some r) ∧ Aside0 (kq ≤ k) ∧ Aside0 (Below w.heap.size w wc))
  case first =>
    have H := HC4.out
    clear HC4
    by_cases c5 : (l0.length : Int) = 16
    · rw [if_pos c5] at H
      have c5b0 : ((l0.length : Int) == 16) = true := beq_iff_eq.mpr c5
      have c5b1 : ((l0.length : Int) != 16) = false := bne_eq_false_iff_eq.mpr c5
      clear c5
      (first | rw [c5b0] | (simp only [i64_w, i32_w]; rw [c5b0]) | skip)
      have H' := Aside0.mk H
      clear H
      go_wp2
      go_meet
      case rel => exact ⟨_, (((l1.length : Int) != 16)), (by first | rfl | (simp; done) | (simp [*]; done)), H', ⟨by first | omega | exact Nat.le_refl _⟩, ⟨by repeat (first | (with_reducible first | exact HB.out | apply below_alloc | apply pw_below_drewN | apply below_drew1) | exact HB.out)⟩⟩
    · rw [if_neg c5] at H
      have c5b0 : ((l0.length : Int) == 16) = false := beq_eq_false_iff_ne.mpr c5
      have c5b1 : ((l0.length : Int) != 16) = true := bne_iff_ne.mpr c5
      (first | rw [c5b0] | (simp only [i64_w, i32_w]; rw [c5b0]) | skip)
      have H' := Aside0.mk H
      clear H
      go_wp2
      go_meet
      case rel => exact ⟨_, (true), (by first | rfl | (simp; done) | (simp [*]; done)), H', ⟨by first | omega | exact Nat.le_refl _⟩, ⟨by repeat (first | (with_reducible first | exact HB.out | apply below_alloc | apply pw_below_drewN | apply below_drew1) | exact HB.out)⟩⟩
  case rest =>
    clear HC4
    try clear c1
    try clear p2
    try clear c5
    try clear c5b0
    try clear c5b1
    obtain ⟨kq, x18_3, rfl, HA, HJ3, HB⟩ := hcut
    cases kq with
    | zero => exact absurd HA.out (by simp [spec_Aes.j0])
    | succ kj3 =>
      have H := HA.out
      clear HA
      simp only [spec_Aes.j0] at H
      by_cases c6 : x18_3 = true
      · subst c6
        have H1 : (some ([] : List Int)) = some r := by rw [if_pos rfl] at H; exact H
        clear H
        have H := H1
        clear H1
        obtain rfl := Option.some.inj H
        go_wp2
        go_ret
        exact ⟨_, by first | rfl | (simp [errW_none, errW_some] <;> rfl) | (simp [*, errW_none, errW_some] <;> rfl), by first | exact Kd.R_nil _ _ _ _ _ | exact Kd.N_nil _ _ _ _ _ | exact Kd.V_nil _ _ _ _ _ | exact Kd.Q_nil _ _ _ _ _ | exact Kd.S_nil _ _ _ _ _, by repeat (first | (with_reducible first | exact HB.out | apply below_alloc | apply pw_below_drewN | apply below_drew1) | exact HB.out)⟩
      · replace c6 := Bool.eq_false_iff.mpr c6
        subst c6
        have H1 : ((spec_l1Words.f kj3 l0).bind fun t405 => (if a2 = true then ((spec_l1Unaes.f t405 l1).bind fun t408 => (some t408)) else (if 16 ≤ (t405.length : Int) then ((spec_l1Xor.f kj3 l1 (t405.take 16)).bind fun t415 => (spec_Aes.l0 kj3 t405 t415 1)) else (none)))) = some r := by rw [if_neg (show ¬ (false = true) by decide)] at H; exact H
        clear H
        have H := H1
        clear H1
        replace H := Option.bind_eq_some_iff.mp H
        obtain ⟨t405, A70, H⟩ := H
        replace H : (if a2 = true then ((spec_l1Unaes.f t405 l1).bind fun t408 => (some t408)) else (if 16 ≤ (t405.length : Int) then ((spec_l1Xor.f kj3 l1 (t405.take 16)).bind fun t415 => (spec_Aes.l0 kj3 t405 t415 1)) else (none))) = some r := H
        have A7 := Aside0.mk A70
        clear A70
        by_cases c8 : a2 = true
        · subst c8
          have H1 : ((spec_l1Unaes.f t405 l1).bind fun t408 => (some t408)) = some r := by rw [if_pos rfl] at H; exact H
          clear H
          have H := H1
          clear H1
          replace H := Option.bind_eq_some_iff.mp H
          obtain ⟨t408, A90, H⟩ := H
          replace H : (some t408) = some r := H
          have A9 := Aside0.mk A90
          clear A90
          obtain rfl := Option.some.inj H
          go_wp2_with (first | ((with_reducible refine gate_callee (f := 112) rfl ?_); refine goesL_ (some 20) rfl rfl Try.func112 (by kernel_rfl) rfl #[.slice A0 l0.length c0] rfl (by (try simp only [List.map_toArray, List.map_cons, List.map_nil]); first | done | rfl | (simp only [List.length_drop, List.length_take]; rfl)) ?_; (with_reducible refine (spec_l1Words.calls kj3 _ _ l0 t405 _ ?side1 ?side2 A7.out).mono ?_); (case side1 => repeat (first | exact (Kd.C_below HR0.out HB.out) | (with_reducible refine Kd.C_alloc ?_ _) | (with_reducible refine Kd.C_drewN ?_ _) | (with_reducible refine Kd.C_drew ?_))); (case side2 => exact HC0.out); rintro e w10 ⟨v406, rfl, ho0, hb⟩; refine ⟨_, rfl, ?_⟩; have n0_ := Aside0.mk (Kd.R_lower ho0 (below_size (by repeat (first | (with_reducible first | exact HB.out | apply below_alloc | apply pw_below_drewN | apply below_drew1) | exact HB.out)))); have n1_ := Aside0.mk (below_step (by repeat (first | (with_reducible first | exact HB.out | apply below_alloc | apply pw_below_drewN | apply below_drew1) | exact HB.out)) hb); clear HB; have HO407 := n0_; have HB := n1_; clear n0_ n1_; (try clear hb); (try clear hb2); (try clear hk); (try clear hi); (try clear ho0); obtain ⟨Ao11, co11, eo11⟩ := Kd.R_slice HO407.out; subst eo11) | ((with_reducible refine gate_callee (f := 113) rfl ?_); refine goesL_ (some 24) rfl rfl Try.func113 (by kernel_rfl) rfl #[.slice Ao11 t405.length co11, .slice A1 l1.length c1] rfl (by (try simp only [List.map_toArray, List.map_cons, List.map_nil]); first | done | rfl | (simp only [List.length_drop, List.length_take]; rfl)) ?_; (with_reducible refine (spec_l1Unaes.calls _ _ t405 _ _ l1 t408 _ ?side1 ?side2 ?side3 ?side4 A9.out).mono ?_); (case side1 => repeat (first | exact (Kd.R_reads' HO407.out).2.2 | (with_reducible refine Kd.C_alloc ?_ _) | (with_reducible refine Kd.C_drewN ?_ _) | (with_reducible refine Kd.C_drew ?_))); (case side2 => exact (Kd.R_reads' HO407.out).2.1); (case side3 => repeat (first | exact (Kd.C_below HR1.out HB.out) | (with_reducible refine Kd.C_alloc ?_ _) | (with_reducible refine Kd.C_drewN ?_ _) | (with_reducible refine Kd.C_drew ?_))); (case side4 => exact HC1.out); rintro e w12 ⟨v409, rfl, ho0, hb⟩; refine ⟨_, rfl, ?_⟩; have n0_ := Aside0.mk (Kd.R_elder' (by (with_reducible repeat (first | apply Kd.R_alloc | apply Kd.R_drewN | apply Kd.R_drew)); exact HO407.out) (Kd.R_base ho0) hb); have n1_ := Aside0.mk (Kd.R_lower (Kd.R_new' ho0 (Kd.R_lt (by (with_reducible repeat (first | apply Kd.R_alloc | apply Kd.R_drewN | apply Kd.R_drew)); exact HO407.out))) (below_size (by repeat (first | (with_reducible first | exact HB.out | apply below_alloc | apply pw_below_drewN | apply below_drew1) | exact HB.out)))); have n2_ := Aside0.mk (below_step (by repeat (first | (with_reducible first | exact HB.out | apply below_alloc | apply pw_below_drewN | apply below_drew1) | exact HB.out)) hb); clear HO407; clear HB; have HO407 := n0_; have HO410 := n1_; have HB := n2_; clear n0_ n1_ n2_; (try clear hb); (try clear hb2); (try clear hk); (try clear hi); (try clear ho0)))
          go_ret
          exact ⟨_, by first | rfl | (simp [errW_none, errW_some] <;> rfl) | (simp [*, errW_none, errW_some] <;> rfl), by (with_reducible repeat (first | apply Kd.R_alloc | apply Kd.R_drewN | apply Kd.R_drew)); exact Kd.R_mono HO410.out (fun _ hk => trivial), by repeat (first | (with_reducible first | exact HB.out | apply below_alloc | apply pw_below_drewN | apply below_drew1) | exact HB.out)⟩
        · replace c8 := Bool.eq_false_iff.mpr c8
          subst c8
          have H1 : (if 16 ≤ (t405.length : Int) then ((spec_l1Xor.f kj3 l1 (t405.take 16)).bind fun t415 => (spec_Aes.l0 kj3 t405 t415 1)) else (none)) = some r := by rw [if_neg (show ¬ (false = true) by decide)] at H; exact H
          clear H
          have H := H1
          clear H1
          by_cases c13 : 16 ≤ (t405.length : Int)
          · rw [if_pos c13] at H
            have c13b0 := eq_true c13
            have c13b1 : decide (16 ≤ (t405.length : Int)) = true := decide_eq_true c13
            clear c13
            obtain ⟨y411, hy411⟩ : ∃ y_ : List Int, y_ = (t405.take 16) := ⟨_, rfl⟩
            replace H : ((spec_l1Xor.f kj3 l1 y411).bind fun t415 => (spec_Aes.l0 kj3 t405 t415 1)) = some r := by first | (rw [hy411]; with_reducible exact H) | (have H2_ := (Option.bind_some _ _).symm.trans H; rw [hy411]; with_reducible exact H2_) | (have H2_ := (Option.bind_some _ _).symm.trans H; with_reducible exact H2_) | with_reducible exact H | (rw [hy411]; exact H) | exact H
            have Ny411 := Aside0.mk hy411
            clear hy411
            replace H := Option.bind_eq_some_iff.mp H
            obtain ⟨t415, A140, H⟩ := H
            replace H : (spec_Aes.l0 kj3 t405 t415 1) = some r := H
            have A14 := Aside0.mk A140
            clear A140
            have H' := Aside0.mk H
            clear H
            go_wp2_with (first | ((with_reducible refine gate_callee (f := 112) rfl ?_); refine goesL_ (some 20) rfl rfl Try.func112 (by kernel_rfl) rfl #[.slice A0 l0.length c0] rfl (by (try simp only [List.map_toArray, List.map_cons, List.map_nil]); first | done | rfl | (simp only [List.length_drop, List.length_take]; rfl)) ?_; (with_reducible refine (spec_l1Words.calls kj3 _ _ l0 t405 _ ?side1 ?side2 A7.out).mono ?_); (case side1 => repeat (first | exact (Kd.C_below HR0.out HB.out) | (with_reducible refine Kd.C_alloc ?_ _) | (with_reducible refine Kd.C_drewN ?_ _) | (with_reducible refine Kd.C_drew ?_))); (case side2 => exact HC0.out); rintro e w15 ⟨v406, rfl, ho0, hb⟩; refine ⟨_, rfl, ?_⟩; have n0_ := Aside0.mk (Kd.R_lower ho0 (below_size (by repeat (first | (with_reducible first | exact HB.out | apply below_alloc | apply pw_below_drewN | apply below_drew1) | exact HB.out)))); have n1_ := Aside0.mk (below_step (by repeat (first | (with_reducible first | exact HB.out | apply below_alloc | apply pw_below_drewN | apply below_drew1) | exact HB.out)) hb); clear HB; have HO407 := n0_; have HB := n1_; clear n0_ n1_; (try clear hb); (try clear hb2); (try clear hk); (try clear hi); (try clear ho0); obtain ⟨Ao17, co17, eo17⟩ := Kd.R_slice HO407.out; subst eo17; have q16 : (16 : Int) ≤ ((t405.length : Int) : Int) := of_decide_eq_true (by first | (with_reducible assumption) | assumption); obtain ⟨i016, hi016, _, hsz16, _⟩ := info_parts info5; have hroom16 : t405.length ≤ co17 := (Kd.R_reads' HO407.out).2.1; have hC16 : Kd.C (Kd.int .u8) _ Ao17 t405.length t405 := (Kd.R_reads' HO407.out).2.2; have hcut16 := cut_to (P := Try.prog) 29 5 .i64 Try.underlying29 hi016 Ao17 t405.length co17 16 (by omega) q16 hroom16; have hr16 := Kd.C_take (m := 16) hC16 (by omega); have hy16 : y411.length = (16 : Int).toNat := (by rw [Ny411.out, List.length_take]; omega); rw [← Ny411.out] at hr16; rw [← hy16] at hcut16; have HR414 := Aside0.mk hr16; have HC414 := Aside0.mk (show y411.length ≤ co17 from by omega); clear hr16 hC16 hroom16 hi016 hsz16; have KY16 := Aside0.mk hy16; clear hy16; have KL16 := Aside0.mk (show 16 ≤ t405.length from by omega); replace q16 := eq_true q16) | ((with_reducible refine gate_callee (f := 45) rfl ?_); refine goesL_ (some 28) rfl rfl Try.func45 (by kernel_rfl) rfl #[.slice A1 l1.length c1, .slice Ao17 y411.length co17] rfl (by (try simp only [List.map_toArray, List.map_cons, List.map_nil]); first | done | rfl | (simp only [List.length_drop, List.length_take]; rfl)) ?_; (with_reducible refine (spec_l1Xor.calls kj3 _ _ l1 _ _ y411 t415 _ ?side1 ?side2 ?side3 ?side4 A14.out).mono ?_); (case side1 => repeat (first | exact (Kd.C_below HR1.out HB.out) | (with_reducible refine Kd.C_alloc ?_ _) | (with_reducible refine Kd.C_drewN ?_ _) | (with_reducible refine Kd.C_drew ?_))); (case side2 => exact HC1.out); (case side3 => repeat (first | exact (by repeat (first | (with_reducible exact HR414.out) | (with_reducible refine Kd.C_alloc ?_ _) | (with_reducible refine Kd.C_drewN ?_ _) | (with_reducible refine Kd.C_drew ?_) | exact HR414.out)) | (with_reducible refine Kd.C_alloc ?_ _) | (with_reducible refine Kd.C_drewN ?_ _) | (with_reducible refine Kd.C_drew ?_))); (case side4 => exact HC414.out); rintro e w18 ⟨v416, rfl, ho0, hb⟩; refine ⟨_, rfl, ?_⟩; have n0_ := Aside0.mk (Kd.R_elder' (by (with_reducible repeat (first | apply Kd.R_alloc | apply Kd.R_drewN | apply Kd.R_drew)); exact HO407.out) (Kd.R_base ho0) hb); have n1_ := Aside0.mk (Kd.R_lower (Kd.R_new' ho0 (Kd.R_lt (by (with_reducible repeat (first | apply Kd.R_alloc | apply Kd.R_drewN | apply Kd.R_drew)); exact HO407.out))) (below_size (by repeat (first | (with_reducible first | exact HB.out | apply below_alloc | apply pw_below_drewN | apply below_drew1) | exact HB.out)))); have n2_ := Aside0.mk (Kd.C_below (by repeat (first | (with_reducible exact HR414.out) | (with_reducible refine Kd.C_alloc ?_ _) | (with_reducible refine Kd.C_drewN ?_ _) | (with_reducible refine Kd.C_drew ?_) | exact HR414.out)) hb); have n3_ := Aside0.mk (below_step (by repeat (first | (with_reducible first | exact HB.out | apply below_alloc | apply pw_below_drewN | apply below_drew1) | exact HB.out)) hb); clear HO407; clear HR414; clear HB; have HO407 := n0_; have HO417 := n1_; have HR414 := n2_; have HB := n3_; clear n0_ n1_ n2_ n3_; (try clear hb); (try clear hb2); (try clear hk); (try clear hi); (try clear ho0)))
            go_loopg [8, 9] kj3 (fun kq v8 v9 w' => ∃ (x7_2 : List Int) (x8_2 : List Int) (x9_2 : Int), v9 = .int .i64 x9_2 ∧ Aside0 (spec_Aes.l0 kq x7_2 x8_2 x9_2 = some r) ∧ Aside0 (kq ≤ kj3) ∧ Aside0 (Kd.R (Kd.int .u8) 5 w' w.heap.size (fun k_ => some k_ ≠ (v8 : Value).ownBlock) (.slice Ao17 t405.length co17) x7_2) ∧ Aside0 (Kd.R (Kd.int .u8) 5 w' w.heap.size (fun k_ => some k_ ≠ ((.slice Ao17 t405.length co17) : Value).ownBlock) v8 x8_2) ∧ Aside0 (Below w.heap.size w w'))
            case atStart => exact ⟨(t405), (t415), (1), (by first | rfl | (simp; done) | (simp [*]; done)), H', ⟨Nat.le_refl _⟩, ⟨by (with_reducible repeat (first | apply Kd.R_alloc | apply Kd.R_drewN | apply Kd.R_drew)); exact Kd.R_mono HO407.out (fun _ hk => hk.2)⟩, ⟨by (with_reducible repeat (first | apply Kd.R_alloc | apply Kd.R_drewN | apply Kd.R_drew)); exact Kd.R_mono HO417.out (fun _ hk => hk.2)⟩, ⟨by repeat (first | (with_reducible first | exact HB.out | apply below_alloc | apply pw_below_drewN | apply below_drew1) | exact HB.out)⟩⟩
            case round =>
              clear H'
              try clear c1
              try clear q1
              try clear p2
              try clear c4
              try clear c5
              try clear c5b0
              try clear c5b1
              try clear c6
              try clear c8
              try clear c10
              try clear c11
              try clear c13
              try clear c13b0
              try clear c13b1
              try clear q16
              try clear p2
              try clear q16
              obtain ⟨x7_2, x8_2, x9_2, rfl, HA, HK2, HO_7, HO_8, HB⟩ := hrel
              have hl7_2 := (Kd.R_reads' HO_7.out).1
              rw [hl7_2] at HO_7
              (try simp only [hl7_2])
              (try simp only [hl7_2] at HO_8)
              cases gk with
              | zero => exact absurd HA.out (by simp [spec_Aes.l0])
              | succ k2 =>
                have H := HA.out
                clear HA
                simp only [spec_Aes.l0] at H
                by_cases c19 : x9_2 ≤ 10
                · rw [if_pos c19] at H
                  have c19b0 : decide (x9_2 ≤ 10) = true := decide_eq_true c19
                  clear c19
                  have H' := Aside0.mk H
                  clear H
                  obtain ⟨Ao20, co20, eo20⟩ := Kd.R_slice HO_8.out
                  subst eo20
                  go_wp2
                  go_loopg [35] k2 (fun kq v35 w' => ∃ (x8_3 : List Int) (x35_3 : Int), v35 = .int .i64 x35_3 ∧ Aside0 (spec_Aes.l1 kq x7_2 x8_3 x9_2 (x8_2.length : Int) x35_3 = some r) ∧ Aside0 (kq ≤ k2) ∧ Aside0 (Kd.R (Kd.int .u8) 5 w' w.heap.size (fun k_ => some k_ ≠ ((.slice Ao20 x8_2.length co20) : Value).ownBlock) (.slice Ao17 x7_2.length co17) x7_2) ∧ Aside0 (Kd.R (Kd.int .u8) 5 w' w.heap.size (fun k_ => some k_ ≠ ((.slice Ao17 x7_2.length co17) : Value).ownBlock) (.slice Ao20 x8_2.length co20) x8_3) ∧ Aside0 (Below w.heap.size w w'))
                  case atStart => exact ⟨(x8_2), (0), (by first | rfl | (simp; done) | (simp [*]; done)), H', ⟨Nat.le_refl _⟩, ⟨by (try simp only [hl7_2]); (with_reducible repeat (first | apply Kd.R_alloc | apply Kd.R_drewN | apply Kd.R_drew)); exact HO_7.out⟩, ⟨by (try simp only [hl7_2]); (with_reducible repeat (first | apply Kd.R_alloc | apply Kd.R_drewN | apply Kd.R_drew)); exact HO_8.out⟩, ⟨by repeat (first | (with_reducible first | exact HB.out | apply below_alloc | apply pw_below_drewN | apply below_drew1) | exact HB.out)⟩⟩
                  case round =>
                    clear H'
                    try clear c1
                    try clear q1
                    try clear p2
                    try clear c4
                    try clear c5
                    try clear c5b0
                    try clear c5b1
                    try clear c6
                    try clear c8
                    try clear c10
                    try clear c11
                    try clear c13
                    try clear c13b0
                    try clear c13b1
                    try clear q16
                    try clear c19
                    try clear c19b0
                    try clear p2
                    try clear q1
                    try clear q16
                    obtain ⟨x8_3, x35_3, rfl, HA, HK3, HO_7, HO_8, HB⟩ := hrel
                    have hl8_3 := (Kd.R_reads' HO_8.out).1
                    rw [hl8_3] at HO_8
                    (try simp only [hl8_3])
                    (try simp only [hl8_3] at HO_7)
                    cases gk with
                    | zero => exact absurd HA.out (by simp [spec_Aes.l1])
                    | succ k3 =>
                      have H := HA.out
                      clear HA
                      simp only [spec_Aes.l1] at H
                      by_cases c21 : x35_3 < (x8_2.length : Int)
                      · rw [if_pos c21] at H
                        have c21b0 : decide (x35_3 < (x8_2.length : Int)) = true := decide_eq_true c21
                        clear c21
                        by_cases c22 : 0 ≤ x35_3
                        · rw [if_pos c22] at H
                          have c22b0 : decide (0 ≤ x35_3) = true := decide_eq_true c22
                          clear c22
                          by_cases c23 : x35_3 < (x8_3.length : Int)
                          · rw [if_pos c23] at H
                            have c23b0 : decide (x35_3 < (x8_3.length : Int)) = true := decide_eq_true c23
                            clear c23
                            replace H := Option.bind_eq_some_iff.mp H
                            obtain ⟨t419, A240, H⟩ := H
                            replace H : (spec_Aes.l1 k3 x7_2 (x8_3.set (x35_3 : Int).toNat t419) x9_2 (x8_2.length : Int) (wrap64 (x35_3 + 1))) = some r := H
                            have A24 := Aside0.mk A240
                            clear A240
                            obtain ⟨y420, hy420⟩ : ∃ y_ : List Int, y_ = (x8_3.set (x35_3 : Int).toNat t419) := ⟨_, rfl⟩
                            replace H : (spec_Aes.l1 k3 x7_2 y420 x9_2 (x8_2.length : Int) (wrap64 (x35_3 + 1))) = some r := by first | (rw [hy420]; with_reducible exact H) | (have H2_ := (Option.bind_some _ _).symm.trans H; rw [hy420]; with_reducible exact H2_) | (have H2_ := (Option.bind_some _ _).symm.trans H; with_reducible exact H2_) | with_reducible exact H | (rw [hy420]; exact H) | exact H
                            have Ny420 := Aside0.mk hy420
                            clear hy420
                            have H' := Aside0.mk H
                            clear H
                            have p418 : 0 ≤ (x35_3 : Int) := of_decide_eq_true (by first | (with_reducible assumption) | assumption)
                            have q418 : x35_3 < (x8_3.length : Int) := of_decide_eq_true (by first | (with_reducible assumption) | assumption)
                            obtain ⟨ad418, e418, hx418_0⟩ := Kd.at_int (Kd.R_reads' HO_8.out).2.2 x35_3 p418 q418
                            cases e418
                            replace p418 := eq_true p418
                            replace q418 := eq_true q418
                            go_wp2_with (first | ((with_reducible refine gate_callee (f := 114) rfl ?_); refine goesL_ (some 44) rfl rfl Try.func114 (by kernel_rfl) rfl #[.int .u8 (rd x8_3 x35_3)] rfl (by (try simp only [List.map_toArray, List.map_cons, List.map_nil]); first | done | rfl | (simp only [List.length_drop, List.length_take]; rfl)) ?_; (with_reducible refine (spec_l1Sub.calls k3 (rd x8_3 x35_3) t419 _ A24.out).mono ?_); rintro e w' ⟨rfl, ⟨nd, rfl⟩⟩; refine ⟨_, rfl, ?_⟩; (try (rw [drewN_self wr]; generalize hq_ : World.drewN wr _ = wr; have n0_ : Aside0 (Kd.R (Kd.int .u8) 5 wr w.heap.size (fun k_ => some k_ ≠ (.slice (some ad418) x8_3.length co20 : Value).ownBlock) (.slice Ao17 x7_2.length co17) x7_2) := ⟨by rw [← hq_]; exact (by (with_reducible repeat (first | apply Kd.R_alloc | apply Kd.R_drewN | apply Kd.R_drew)); exact HO_7.out)⟩; have n1_ : Aside0 (Kd.R (Kd.int .u8) 5 wr w.heap.size (fun k_ => some k_ ≠ (.slice Ao17 x7_2.length co17 : Value).ownBlock) (.slice (some ad418) x8_3.length co20) x8_3) := ⟨by rw [← hq_]; exact (by (with_reducible repeat (first | apply Kd.R_alloc | apply Kd.R_drewN | apply Kd.R_drew)); exact HO_8.out)⟩; have n2_ : Aside0 (Below w.heap.size w wr) := ⟨by rw [← hq_]; exact (by repeat (first | (with_reducible first | exact HB.out | apply below_alloc | apply pw_below_drewN | apply below_drew1) | exact HB.out))⟩; clear HO_7 HO_8 HB hq_; have HO_7 := n0_; have HO_8 := n1_; have HB := n2_; clear n0_ n1_ n2_)); have p25 : 0 ≤ (x35_3 : Int) := of_decide_eq_true (by first | (with_reducible assumption) | assumption); have q25 : (x35_3 : Int) < ((x8_3.length : Int) : Int) := of_decide_eq_true (by first | (with_reducible assumption) | assumption); obtain ⟨go25, co25, eo25, gb25, gl25, cl25, HG25⟩ := Kd.R_form HO_8.out (by omega); (first | cases eo25 | (injection eo25 with ea_ en_ ec_; (first | subst ea_ | (injection ea_ with ea_; subst ea_)); subst ec_; clear en_)); have GB25 := Aside0.mk gb25; have GG25 := Aside0.mk HG25; clear gb25 gl25 HG25; (first | simp only [add_plain] at hx418_0 | skip); obtain ⟨hx25_0, hf25_0⟩ := Kd.R_celln 0 HO_8.out (x35_3 : Int) p25 q25; replace p25 := eq_true p25; replace q25 := eq_true q25; obtain ⟨hy26_, hz26_⟩ := Kd.R_celln 0 HO_8.out (x35_3 : Int) (of_decide_eq_true (by first | (with_reducible assumption) | assumption)) (of_decide_eq_true (by first | (with_reducible assumption) | assumption)); have HP26 := Kd.R_putg HO_8.out (x35_3 : Int) t419) | ((with_reducible refine gate_store (t := 5) (p := 45) rfl ?_); refine store_event (t := 5) (p := 45) (v := ?vo_w27) (w1 := (wr.setCell ⟨go25, (x35_3 : Int).toNat, none⟩ (.int .u8 t419))) ?hg ?ho ?hn ?hr ?_; (case ho => rfl); (case hg => rfl); (case hn => rfl); (case hr => first | (go_simp; done) | (go_simp; rfl)); intro w27 hw; have hg : wr.grownBy w27 (some go25) := (by rw [hw]; exact HP26.2); have hp_ : Kd.R (Kd.int .u8) 5 w27 w.heap.size (fun k_ => some k_ ≠ (.slice Ao17 x7_2.length co17 : Value).ownBlock) (.slice (some ⟨go25, 0, none⟩) x8_3.length co20) y420 := (by rw [hw, Ny420.out]; exact HP26.1); clear HP26; have n0_ := Aside0.mk (Kd.R_after (v := (.slice (some ⟨go25, 0, none⟩) x8_3.length co20)) (v1 := (.slice (some ⟨go25, 0, none⟩) x8_3.length co20)) (ok := (fun _ => True)) (by (with_reducible repeat (first | apply Kd.R_alloc | apply Kd.R_drewN | apply Kd.R_drew)); exact Kd.R_mono HO_7.out (fun _ hk => ⟨trivial, hk⟩)) hg (.inl rfl)); have n1_ := Aside0.mk (hp_); have n2_ := Aside0.mk ((by rw [hw]; exact below_set (HB.out) GB25.out : Below w.heap.size w w27)); clear HO_7; clear HO_8; clear HB; have HO_7 := n0_; have HO_8 := n1_; have HB := n2_; clear n0_ n1_ n2_; clear hg hw hp_))
                            (try simp only [← hl8_3])
                            go_roundg k3
                            case measure => have := HJ3.out; have := HK2.out; have := HK3.out; omega
                            case rel => exact ⟨(y420), (wrap64 (x35_3 + 1)), (by first | rfl | (simp; done) | (simp [*]; done)), H', ⟨by have := HJ3.out; have := HK2.out; have := HK3.out; omega⟩, ⟨by (try simp only [hl7_2]); (try simp only [hl8_3]); (with_reducible repeat (first | apply Kd.R_alloc | apply Kd.R_drewN | apply Kd.R_drew)); exact Kd.R_mono HO_7.out (fun _ hk => hk.2)⟩, ⟨by (try simp only [hl7_2]); (try simp only [hl8_3]); (with_reducible repeat (first | apply Kd.R_alloc | apply Kd.R_drewN | apply Kd.R_drew)); exact HO_8.out⟩, ⟨by repeat (first | (with_reducible first | exact HB.out | apply below_alloc | apply pw_below_drewN | apply below_drew1) | exact HB.out)⟩⟩
                          · rw [if_neg c23] at H
                            exact absurd H (by simp)
                        · rw [if_neg c22] at H
                          exact absurd H (by simp)
                      · rw [if_neg c21] at H
                        have c21b0 : decide (x35_3 < (x8_2.length : Int)) = false := decide_eq_false c21
                        have cx_ : decide (x35_3 < (x8_3.length : Int)) = false := by first | (rw [hl8_3]; exact c21b0) | (rw [← hl8_3]; exact c21b0) | (simp only [hl8_3]; exact c21b0)
                        clear c21
                        replace H := Option.bind_eq_some_iff.mp H
                        obtain ⟨t421, A280, H⟩ := H
                        replace H : (if x9_2 < 10 then ((spec_l1Mix.f k3 t421 (([2, 3, 1, 1] : List Int))).bind fun t427 => (if 0 ≤ (wrap64 (16 * x9_2)) then (if (wrap64 (16 * x9_2)) ≤ (wrap64 ((wrap64 (16 * x9_2)) + 16)) then (if (wrap64 ((wrap64 (16 * x9_2)) + 16)) ≤ (x7_2.length : Int) then ((spec_l1Xor.f k3 t427 ((x7_2.take ((wrap64 ((wrap64 (16 * x9_2)) + 16)) : Int).toNat).drop ((wrap64 (16 * x9_2)) : Int).toNat)).bind fun t434 => (spec_Aes.l0 k3 x7_2 t434 (wrap64 (x9_2 + 1)))) else (none)) else (none)) else (none))) else (if 0 ≤ (wrap64 (16 * x9_2)) then (if (wrap64 (16 * x9_2)) ≤ (wrap64 ((wrap64 (16 * x9_2)) + 16)) then (if (wrap64 ((wrap64 (16 * x9_2)) + 16)) ≤ (x7_2.length : Int) then ((spec_l1Xor.f k3 t421 ((x7_2.take ((wrap64 ((wrap64 (16 * x9_2)) + 16)) : Int).toNat).drop ((wrap64 (16 * x9_2)) : Int).toNat)).bind fun t441 => (spec_Aes.l0 k3 x7_2 t441 (wrap64 (x9_2 + 1)))) else (none)) else (none)) else (none))) = some r := H
                        have A28 := Aside0.mk A280
                        clear A280
                        by_cases c29 : x9_2 < 10
                        · rw [if_pos c29] at H
                          have c29b0 : decide (x9_2 < 10) = true := decide_eq_true c29
                          clear c29
                          obtain ⟨y424, hy424⟩ : ∃ y_ : List Int, y_ = (([2, 3, 1, 1] : List Int)) := ⟨_, rfl⟩
                          replace H : ((spec_l1Mix.f k3 t421 y424).bind fun t427 => (if 0 ≤ (wrap64 (16 * x9_2)) then (if (wrap64 (16 * x9_2)) ≤ (wrap64 ((wrap64 (16 * x9_2)) + 16)) then (if (wrap64 ((wrap64 (16 * x9_2)) + 16)) ≤ (x7_2.length : Int) then ((spec_l1Xor.f k3 t427 ((x7_2.take ((wrap64 ((wrap64 (16 * x9_2)) + 16)) : Int).toNat).drop ((wrap64 (16 * x9_2)) : Int).toNat)).bind fun t434 => (spec_Aes.l0 k3 x7_2 t434 (wrap64 (x9_2 + 1)))) else (none)) else (none)) else (none))) = some r := by first | (rw [hy424]; with_reducible exact H) | (have H2_ := (Option.bind_some _ _).symm.trans H; rw [hy424]; with_reducible exact H2_) | (have H2_ := (Option.bind_some _ _).symm.trans H; with_reducible exact H2_) | with_reducible exact H | (rw [hy424]; exact H) | exact H
                          have Ny424 := Aside0.mk hy424
                          clear hy424
                          replace H := Option.bind_eq_some_iff.mp H
                          obtain ⟨t427, A300, H⟩ := H
                          replace H : (if 0 ≤ (wrap64 (16 * x9_2)) then (if (wrap64 (16 * x9_2)) ≤ (wrap64 ((wrap64 (16 * x9_2)) + 16)) then (if (wrap64 ((wrap64 (16 * x9_2)) + 16)) ≤ (x7_2.length : Int) then ((spec_l1Xor.f k3 t427 ((x7_2.take ((wrap64 ((wrap64 (16 * x9_2)) + 16)) : Int).toNat).drop ((wrap64 (16 * x9_2)) : Int).toNat)).bind fun t434 => (spec_Aes.l0 k3 x7_2 t434 (wrap64 (x9_2 + 1)))) else (none)) else (none)) else (none)) = some r := H
                          have A30 := Aside0.mk A300
                          clear A300
                          obtain ⟨ji31, hji31⟩ : ∃ j_ : Int, (wrap64 (16 * x9_2)) = j_ := ⟨_, rfl⟩
                          replace H : (if 0 ≤ (ji31) then (if (ji31) ≤ (wrap64 ((ji31) + 16)) then (if (wrap64 ((ji31) + 16)) ≤ (x7_2.length : Int) then ((spec_l1Xor.f k3 t427 ((x7_2.take ((wrap64 ((ji31) + 16)) : Int).toNat).drop ((ji31) : Int).toNat)).bind fun t434 => (spec_Aes.l0 k3 x7_2 t434 (wrap64 (x9_2 + 1)))) else (none)) else (none)) else (none)) = some r := by first | (rw [hji31] at H; exact H) | (simp only [hji31] at H ⊢; exact H)
                          (try rw [hji31] at A28)
                          (try rw [hji31] at A30)
                          have hji31w : (IntKind.i64.wrap (16 * x9_2)) = ji31 := (i64_w _).trans hji31
                          by_cases c32 : 0 ≤ (ji31)
                          · rw [if_pos c32] at H
                            have c32b0 := eq_true c32
                            have c32b1 : decide (0 ≤ (ji31)) = true := decide_eq_true c32
                            clear c32
                            by_cases c33 : (ji31) ≤ (wrap64 ((ji31) + 16))
                            · rw [if_pos c33] at H
                              have c33b0 := eq_true c33
                              have c33b1 : decide ((ji31) ≤ (wrap64 ((ji31) + 16))) = true := decide_eq_true c33
                              by_cases c34 : (wrap64 ((ji31) + 16)) ≤ (x7_2.length : Int)
                              · rw [if_pos c34] at H
                                have c34b0 := eq_true c34
                                have c34b1 : decide ((wrap64 ((ji31) + 16)) ≤ (x7_2.length : Int)) = true := decide_eq_true c34
                                obtain ⟨y430, hy430⟩ : ∃ y_ : List Int, y_ = ((x7_2.take ((wrap64 ((ji31) + 16)) : Int).toNat).drop ((ji31) : Int).toNat) := ⟨_, rfl⟩
                                replace H : ((spec_l1Xor.f k3 t427 y430).bind fun t434 => (spec_Aes.l0 k3 x7_2 t434 (wrap64 (x9_2 + 1)))) = some r := by first | (rw [hy430]; with_reducible exact H) | (have H2_ := (Option.bind_some _ _).symm.trans H; rw [hy430]; with_reducible exact H2_) | (have H2_ := (Option.bind_some _ _).symm.trans H; with_reducible exact H2_) | with_reducible exact H | (rw [hy430]; exact H) | exact H
                                have Ny430 := Aside0.mk hy430
                                clear hy430
                                replace H := Option.bind_eq_some_iff.mp H
                                obtain ⟨t434, A350, H⟩ := H
                                replace H : (spec_Aes.l0 k3 x7_2 t434 (wrap64 (x9_2 + 1))) = some r := H
                                have A35 := Aside0.mk A350
                                clear A350
                                have H' := Aside0.mk H
                                clear H
                                go_wp2_with (first | ((with_reducible refine gate_callee (f := 115) rfl ?_); refine goesL_ (some 48) rfl rfl Try.func115 (by kernel_rfl) rfl #[.slice Ao20 x8_3.length co20, .int .i64 1] rfl (by (try simp only [List.map_toArray, List.map_cons, List.map_nil]); first | done | rfl | (simp only [List.length_drop, List.length_take]; rfl)) ?_; (with_reducible refine (spec_l1Shift.calls k3 _ _ x8_3 1 t421 _ ?side1 ?side2 A28.out).mono ?_); (case side1 => repeat (first | exact (Kd.R_reads' HO_8.out).2.2 | (with_reducible refine Kd.C_alloc ?_ _) | (with_reducible refine Kd.C_drewN ?_ _) | (with_reducible refine Kd.C_drew ?_))); (case side2 => exact (Kd.R_reads' HO_8.out).2.1); rintro e w36 ⟨v422, rfl, ho0, hb⟩; refine ⟨_, rfl, ?_⟩; have n0_ := Aside0.mk (Kd.R_elder' (by (with_reducible repeat (first | apply Kd.R_alloc | apply Kd.R_drewN | apply Kd.R_drew)); exact HO_7.out) (Kd.R_base ho0) hb); have n1_ := Aside0.mk (Kd.R_elder' (by (with_reducible repeat (first | apply Kd.R_alloc | apply Kd.R_drewN | apply Kd.R_drew)); exact HO_8.out) (Kd.R_base ho0) hb); have n2_ := Aside0.mk (Kd.R_lower (Kd.R_new' (Kd.R_new' ho0 (Kd.R_lt (by (with_reducible repeat (first | apply Kd.R_alloc | apply Kd.R_drewN | apply Kd.R_drew)); exact HO_7.out))) (Kd.R_lt (by (with_reducible repeat (first | apply Kd.R_alloc | apply Kd.R_drewN | apply Kd.R_drew)); exact HO_8.out))) (below_size (by repeat (first | (with_reducible first | exact HB.out | apply below_alloc | apply pw_below_drewN | apply below_drew1) | exact HB.out)))); have n3_ := Aside0.mk (below_step (by repeat (first | (with_reducible first | exact HB.out | apply below_alloc | apply pw_below_drewN | apply below_drew1) | exact HB.out)) hb); clear HO_7; clear HO_8; clear HB; have HO_7 := n0_; have HO_8 := n1_; have HO423 := n2_; have HB := n3_; clear n0_ n1_ n2_ n3_; (try clear hb); (try clear hb2); (try clear hk); (try clear hi); (try clear ho0)) | ((with_reducible refine gate_dst (N := 52) rfl ?_); (try (refine gate_guard (by rfl) ?_; dsimp only)); refine Kd.R_lit (Kd.int .u8) _ 5 ?hg (N := 52) ?hd (xs := ([2, 3, 1, 1] : List Int)) (inner := [.int .u8 2, .int .u8 3, .int .u8 1, .int .u8 1]) (ok := fun _ => True) (okp := fun _ => True) ?hr ?hp (fun _ hk => hk) trivial (Below.refl _ _) (Nat.le_refl _) (by simp) ?_; (case hd => rfl); (case hg => rfl); (case hr => first | (go_simp; done) | (go_simp; rfl)); (case hp => exact (Reps.one (show Kd.M (Kd.int .u8) _ _ _ 2 [.int .u8 2] from rfl) (Reps.one (show Kd.M (Kd.int .u8) _ _ _ 3 [.int .u8 3] from rfl) (Reps.one (show Kd.M (Kd.int .u8) _ _ _ 1 [.int .u8 1] from rfl) (Reps.one (show Kd.M (Kd.int .u8) _ _ _ 1 [.int .u8 1] from rfl) (Reps.none _ _)))))); intro v425 w37 ho38 hb hg_ hnew_; clear hg_ hnew_; (first | rw [← Ny424.out] at ho38 | (simp only [Int.reduceToNat] at ho38; rw [← Ny424.out] at ho38)); have n0_ := Aside0.mk (Kd.R_elder' (by (with_reducible repeat (first | apply Kd.R_alloc | apply Kd.R_drewN | apply Kd.R_drew)); exact HO_7.out) (Kd.R_base ho38) hb); have n1_ := Aside0.mk (Kd.R_elder' (by (with_reducible repeat (first | apply Kd.R_alloc | apply Kd.R_drewN | apply Kd.R_drew)); exact HO_8.out) (Kd.R_base ho38) hb); have n2_ := Aside0.mk (Kd.R_elder' (by (with_reducible repeat (first | apply Kd.R_alloc | apply Kd.R_drewN | apply Kd.R_drew)); exact HO423.out) (Kd.R_base ho38) hb); have n3_ := Aside0.mk (Kd.R_lower (Kd.R_new' (Kd.R_new' (Kd.R_new' ho38 (Kd.R_lt (by (with_reducible repeat (first | apply Kd.R_alloc | apply Kd.R_drewN | apply Kd.R_drew)); exact HO_7.out))) (Kd.R_lt (by (with_reducible repeat (first | apply Kd.R_alloc | apply Kd.R_drewN | apply Kd.R_drew)); exact HO_8.out))) (Kd.R_lt (by (with_reducible repeat (first | apply Kd.R_alloc | apply Kd.R_drewN | apply Kd.R_drew)); exact HO423.out))) (below_size (by repeat (first | (with_reducible first | exact HB.out | apply below_alloc | apply pw_below_drewN | apply below_drew1) | exact HB.out)))); have n4_ := Aside0.mk (below_step (by repeat (first | (with_reducible first | exact HB.out | apply below_alloc | apply pw_below_drewN | apply below_drew1) | exact HB.out)) hb); clear HO_7; clear HO_8; clear HO423; clear HB; have HO_7 := n0_; have HO_8 := n1_; have HO423 := n2_; have HO426 := n3_; have HB := n4_; clear n0_ n1_ n2_ n3_ n4_; clear hb ho38; obtain ⟨Ao39, co39, eo39⟩ := Kd.R_slice HO423.out; subst eo39; obtain ⟨Ao40, co40, eo40⟩ := Kd.R_slice HO426.out; subst eo40) | ((with_reducible refine gate_callee (f := 116) rfl ?_); refine goesL_ (some 53) rfl rfl Try.func116 (by kernel_rfl) rfl #[.slice Ao39 t421.length co39, .slice Ao40 y424.length co40] rfl (by (try simp only [List.map_toArray, List.map_cons, List.map_nil]); first | done | rfl | (simp only [List.length_drop, List.length_take]; rfl)) ?_; (with_reducible refine (spec_l1Mix.calls k3 _ _ t421 _ _ y424 t427 _ ?side1 ?side2 ?side3 ?side4 A30.out).mono ?_); (case side1 => repeat (first | exact (Kd.R_reads' HO423.out).2.2 | (with_reducible refine Kd.C_alloc ?_ _) | (with_reducible refine Kd.C_drewN ?_ _) | (with_reducible refine Kd.C_drew ?_))); (case side2 => exact (Kd.R_reads' HO423.out).2.1); (case side3 => repeat (first | exact (Kd.R_reads' HO426.out).2.2 | (with_reducible refine Kd.C_alloc ?_ _) | (with_reducible refine Kd.C_drewN ?_ _) | (with_reducible refine Kd.C_drew ?_))); (case side4 => exact (Kd.R_reads' HO426.out).2.1); rintro e w41 ⟨v428, rfl, ho0, hb⟩; refine ⟨_, rfl, ?_⟩; have n0_ := Aside0.mk (Kd.R_elder' (by (with_reducible repeat (first | apply Kd.R_alloc | apply Kd.R_drewN | apply Kd.R_drew)); exact HO_7.out) (Kd.R_base ho0) hb); have n1_ := Aside0.mk (Kd.R_elder' (by (with_reducible repeat (first | apply Kd.R_alloc | apply Kd.R_drewN | apply Kd.R_drew)); exact HO_8.out) (Kd.R_base ho0) hb); have n2_ := Aside0.mk (Kd.R_elder' (by (with_reducible repeat (first | apply Kd.R_alloc | apply Kd.R_drewN | apply Kd.R_drew)); exact HO423.out) (Kd.R_base ho0) hb); have n3_ := Aside0.mk (Kd.R_elder' (by (with_reducible repeat (first | apply Kd.R_alloc | apply Kd.R_drewN | apply Kd.R_drew)); exact HO426.out) (Kd.R_base ho0) hb); have n4_ := Aside0.mk (Kd.R_lower (Kd.R_new' (Kd.R_new' (Kd.R_new' (Kd.R_new' ho0 (Kd.R_lt (by (with_reducible repeat (first | apply Kd.R_alloc | apply Kd.R_drewN | apply Kd.R_drew)); exact HO_7.out))) (Kd.R_lt (by (with_reducible repeat (first | apply Kd.R_alloc | apply Kd.R_drewN | apply Kd.R_drew)); exact HO_8.out))) (Kd.R_lt (by (with_reducible repeat (first | apply Kd.R_alloc | apply Kd.R_drewN | apply Kd.R_drew)); exact HO423.out))) (Kd.R_lt (by (with_reducible repeat (first | apply Kd.R_alloc | apply Kd.R_drewN | apply Kd.R_drew)); exact HO426.out))) (below_size (by repeat (first | (with_reducible first | exact HB.out | apply below_alloc | apply pw_below_drewN | apply below_drew1) | exact HB.out)))); have n5_ := Aside0.mk (below_step (by repeat (first | (with_reducible first | exact HB.out | apply below_alloc | apply pw_below_drewN | apply below_drew1) | exact HB.out)) hb); clear HO_7; clear HO_8; clear HO423; clear HO426; clear HB; have HO_7 := n0_; have HO_8 := n1_; have HO423 := n2_; have HO426 := n3_; have HO429 := n4_; have HB := n5_; clear n0_ n1_ n2_ n3_ n4_ n5_; (try clear hb); (try clear hb2); (try clear hk); (try clear hi); (try clear ho0); have q42 : ((wrap64 ((ji31) + 16)) : Int) ≤ ((x7_2.length : Int) : Int) := of_decide_eq_true (by first | (with_reducible assumption) | assumption); obtain ⟨i042, hi042, _, hsz42, _⟩ := info_parts info5; have hroom42 : x7_2.length ≤ co17 := (Kd.R_reads' HO_7.out).2.1; have hC42 : Kd.C (Kd.int .u8) _ Ao17 x7_2.length x7_2 := (Kd.R_reads' HO_7.out).2.2; have ql42 : ((ji31) : Int) ≤ ((wrap64 ((ji31) + 16)) : Int) := of_decide_eq_true (by first | (with_reducible assumption) | assumption); have q042 : (0 : Int) ≤ ((ji31) : Int) := of_decide_eq_true (by first | (with_reducible assumption) | assumption); have hcut42 := cut_mid (P := Try.prog) 29 5 .i64 .i64 Try.underlying29 hi042 1 hsz42 Ao17 x7_2.length co17 (ji31) (wrap64 ((ji31) + 16)) q042 ql42 q42 hroom42; have hr42 := Kd.C_mid (lo := ((ji31) : Int).toNat) (hi := ((wrap64 ((ji31) + 16)) : Int).toNat) (c := co17) hC42 (by omega) (by omega) hroom42; obtain ⟨A42, hA42⟩ : ∃ A1, A1 = (if co17 = ((ji31) : Int).toNat then Ao17 else (Ao17 : Option Addr).map (·.add (((ji31) : Int).toNat * 1))) := ⟨_, rfl⟩; obtain ⟨c42, hc42⟩ : ∃ c1, c1 = co17 - ((ji31) : Int).toNat := ⟨_, rfl⟩; have hy42 : y430.length = ((wrap64 ((ji31) + 16)) : Int).toNat - ((ji31) : Int).toNat := (by rw [Ny430.out, List.length_drop, List.length_take] <;> omega); rw [show ((x7_2).take ((wrap64 ((ji31) + 16)) : Int).toNat).drop ((ji31) : Int).toNat = y430 from Ny430.out.symm] at hr42; replace hr42 : Kd.C (Kd.int .u8) _ A42 y430.length y430 := (by rw [hA42]; exact hr42); rw [← hy42, ← hA42, ← hc42] at hcut42; have HR433 := Aside0.mk hr42; have HC433 := Aside0.mk (show y430.length ≤ c42 from by rw [hy42, hc42]; exact Nat.sub_le_sub_right (Nat.le_trans (by omega) hroom42) _); clear hr42 hC42 hroom42 hi042 hsz42 hc42; have KY42 := Aside0.mk hy42; have KA42 := Aside0.mk hA42; clear hy42 hA42; have KL42 := Aside0.mk (show ((wrap64 ((ji31) + 16)) : Int).toNat ≤ x7_2.length from by omega); have KM42 := Aside0.mk (show ((ji31) : Int).toNat ≤ ((wrap64 ((ji31) + 16)) : Int).toNat from by omega); replace q42 := eq_true q42; obtain ⟨Ao43, co43, eo43⟩ := Kd.R_slice HO429.out; subst eo43) | ((with_reducible refine gate_callee (f := 45) rfl ?_); refine goesL_ (some 62) rfl rfl Try.func45 (by kernel_rfl) rfl #[.slice Ao43 t427.length co43, .slice A42 y430.length c42] rfl (by (try simp only [List.map_toArray, List.map_cons, List.map_nil]); first | done | rfl | (simp only [List.length_drop, List.length_take]; rfl)) ?_; (with_reducible refine (spec_l1Xor.calls k3 _ _ t427 _ _ y430 t434 _ ?side1 ?side2 ?side3 ?side4 A35.out).mono ?_); (case side1 => repeat (first | exact (Kd.R_reads' HO429.out).2.2 | (with_reducible refine Kd.C_alloc ?_ _) | (with_reducible refine Kd.C_drewN ?_ _) | (with_reducible refine Kd.C_drew ?_))); (case side2 => exact (Kd.R_reads' HO429.out).2.1); (case side3 => repeat (first | exact (by repeat (first | (with_reducible exact HR433.out) | (with_reducible refine Kd.C_alloc ?_ _) | (with_reducible refine Kd.C_drewN ?_ _) | (with_reducible refine Kd.C_drew ?_) | exact HR433.out)) | (with_reducible refine Kd.C_alloc ?_ _) | (with_reducible refine Kd.C_drewN ?_ _) | (with_reducible refine Kd.C_drew ?_))); (case side4 => exact HC433.out); rintro e w44 ⟨v435, rfl, ho0, hb⟩; refine ⟨_, rfl, ?_⟩; have n0_ := Aside0.mk (Kd.R_elder' (by (with_reducible repeat (first | apply Kd.R_alloc | apply Kd.R_drewN | apply Kd.R_drew)); exact HO_7.out) (Kd.R_base ho0) hb); have n1_ := Aside0.mk (Kd.R_elder' (by (with_reducible repeat (first | apply Kd.R_alloc | apply Kd.R_drewN | apply Kd.R_drew)); exact HO_8.out) (Kd.R_base ho0) hb); have n2_ := Aside0.mk (Kd.R_elder' (by (with_reducible repeat (first | apply Kd.R_alloc | apply Kd.R_drewN | apply Kd.R_drew)); exact HO423.out) (Kd.R_base ho0) hb); have n3_ := Aside0.mk (Kd.R_elder' (by (with_reducible repeat (first | apply Kd.R_alloc | apply Kd.R_drewN | apply Kd.R_drew)); exact HO426.out) (Kd.R_base ho0) hb); have n4_ := Aside0.mk (Kd.R_elder' (by (with_reducible repeat (first | apply Kd.R_alloc | apply Kd.R_drewN | apply Kd.R_drew)); exact HO429.out) (Kd.R_base ho0) hb); have n5_ := Aside0.mk (Kd.R_lower (Kd.R_new' (Kd.R_new' (Kd.R_new' (Kd.R_new' (Kd.R_new' ho0 (Kd.R_lt (by (with_reducible repeat (first | apply Kd.R_alloc | apply Kd.R_drewN | apply Kd.R_drew)); exact HO_7.out))) (Kd.R_lt (by (with_reducible repeat (first | apply Kd.R_alloc | apply Kd.R_drewN | apply Kd.R_drew)); exact HO_8.out))) (Kd.R_lt (by (with_reducible repeat (first | apply Kd.R_alloc | apply Kd.R_drewN | apply Kd.R_drew)); exact HO423.out))) (Kd.R_lt (by (with_reducible repeat (first | apply Kd.R_alloc | apply Kd.R_drewN | apply Kd.R_drew)); exact HO426.out))) (Kd.R_lt (by (with_reducible repeat (first | apply Kd.R_alloc | apply Kd.R_drewN | apply Kd.R_drew)); exact HO429.out))) (below_size (by repeat (first | (with_reducible first | exact HB.out | apply below_alloc | apply pw_below_drewN | apply below_drew1) | exact HB.out)))); have n6_ := Aside0.mk (Kd.C_below (by repeat (first | (with_reducible exact HR433.out) | (with_reducible refine Kd.C_alloc ?_ _) | (with_reducible refine Kd.C_drewN ?_ _) | (with_reducible refine Kd.C_drew ?_) | exact HR433.out)) hb); have n7_ := Aside0.mk (below_step (by repeat (first | (with_reducible first | exact HB.out | apply below_alloc | apply pw_below_drewN | apply below_drew1) | exact HB.out)) hb); clear HO_7; clear HO_8; clear HO423; clear HO426; clear HO429; clear HR433; clear HB; have HO_7 := n0_; have HO_8 := n1_; have HO423 := n2_; have HO426 := n3_; have HO429 := n4_; have HO436 := n5_; have HR433 := n6_; have HB := n7_; clear n0_ n1_ n2_ n3_ n4_ n5_ n6_ n7_; (try clear hb); (try clear hb2); (try clear hk); (try clear hi); (try clear ho0)))
                                (try simp only [← hl7_2, ← hl8_3])
                                go_roundg k3
                                case measure => have := HJ3.out; have := HK2.out; have := HK3.out; omega
                                case rel => exact ⟨(x7_2), (t434), (wrap64 (x9_2 + 1)), (by first | rfl | (simp; done) | (simp [*]; done)), H', ⟨by have := HJ3.out; have := HK2.out; have := HK3.out; omega⟩, ⟨by (try simp only [hl7_2]); (try simp only [hl8_3]); (with_reducible repeat (first | apply Kd.R_alloc | apply Kd.R_drewN | apply Kd.R_drew)); exact Kd.R_mono HO_7.out (fun _ hk => hk.2)⟩, ⟨by (try simp only [hl7_2]); (try simp only [hl8_3]); (with_reducible repeat (first | apply Kd.R_alloc | apply Kd.R_drewN | apply Kd.R_drew)); exact Kd.R_mono HO436.out (fun _ hk => hk.1.1.1.1.2)⟩, ⟨by repeat (first | (with_reducible first | exact HB.out | apply below_alloc | apply pw_below_drewN | apply below_drew1) | exact HB.out)⟩⟩
                              · rw [if_neg c34] at H
                                exact absurd H (by simp)
                            · rw [if_neg c33] at H
                              exact absurd H (by simp)
                          · rw [if_neg c32] at H
                            exact absurd H (by simp)
                        · rw [if_neg c29] at H
                          have c29b0 : decide (x9_2 < 10) = false := decide_eq_false c29
                          clear c29
                          obtain ⟨ji45, hji45⟩ : ∃ j_ : Int, (wrap64 (16 * x9_2)) = j_ := ⟨_, rfl⟩
                          replace H : (if 0 ≤ (ji45) then (if (ji45) ≤ (wrap64 ((ji45) + 16)) then (if (wrap64 ((ji45) + 16)) ≤ (x7_2.length : Int) then ((spec_l1Xor.f k3 t421 ((x7_2.take ((wrap64 ((ji45) + 16)) : Int).toNat).drop ((ji45) : Int).toNat)).bind fun t441 => (spec_Aes.l0 k3 x7_2 t441 (wrap64 (x9_2 + 1)))) else (none)) else (none)) else (none)) = some r := by first | (rw [hji45] at H; exact H) | (simp only [hji45] at H ⊢; exact H)
                          (try rw [hji45] at A28)
                          have hji45w : (IntKind.i64.wrap (16 * x9_2)) = ji45 := (i64_w _).trans hji45
                          by_cases c46 : 0 ≤ (ji45)
                          · rw [if_pos c46] at H
                            have c46b0 := eq_true c46
                            have c46b1 : decide (0 ≤ (ji45)) = true := decide_eq_true c46
                            clear c46
                            by_cases c47 : (ji45) ≤ (wrap64 ((ji45) + 16))
                            · rw [if_pos c47] at H
                              have c47b0 := eq_true c47
                              have c47b1 : decide ((ji45) ≤ (wrap64 ((ji45) + 16))) = true := decide_eq_true c47
                              by_cases c48 : (wrap64 ((ji45) + 16)) ≤ (x7_2.length : Int)
                              · rw [if_pos c48] at H
                                have c48b0 := eq_true c48
                                have c48b1 : decide ((wrap64 ((ji45) + 16)) ≤ (x7_2.length : Int)) = true := decide_eq_true c48
                                obtain ⟨y437, hy437⟩ : ∃ y_ : List Int, y_ = ((x7_2.take ((wrap64 ((ji45) + 16)) : Int).toNat).drop ((ji45) : Int).toNat) := ⟨_, rfl⟩
                                replace H : ((spec_l1Xor.f k3 t421 y437).bind fun t441 => (spec_Aes.l0 k3 x7_2 t441 (wrap64 (x9_2 + 1)))) = some r := by first | (rw [hy437]; with_reducible exact H) | (have H2_ := (Option.bind_some _ _).symm.trans H; rw [hy437]; with_reducible exact H2_) | (have H2_ := (Option.bind_some _ _).symm.trans H; with_reducible exact H2_) | with_reducible exact H | (rw [hy437]; exact H) | exact H
                                have Ny437 := Aside0.mk hy437
                                clear hy437
                                replace H := Option.bind_eq_some_iff.mp H
                                obtain ⟨t441, A490, H⟩ := H
                                replace H : (spec_Aes.l0 k3 x7_2 t441 (wrap64 (x9_2 + 1))) = some r := H
                                have A49 := Aside0.mk A490
                                clear A490
                                have H' := Aside0.mk H
                                clear H
                                go_wp2_with (first | ((with_reducible refine gate_callee (f := 115) rfl ?_); refine goesL_ (some 48) rfl rfl Try.func115 (by kernel_rfl) rfl #[.slice Ao20 x8_3.length co20, .int .i64 1] rfl (by (try simp only [List.map_toArray, List.map_cons, List.map_nil]); first | done | rfl | (simp only [List.length_drop, List.length_take]; rfl)) ?_; (with_reducible refine (spec_l1Shift.calls k3 _ _ x8_3 1 t421 _ ?side1 ?side2 A28.out).mono ?_); (case side1 => repeat (first | exact (Kd.R_reads' HO_8.out).2.2 | (with_reducible refine Kd.C_alloc ?_ _) | (with_reducible refine Kd.C_drewN ?_ _) | (with_reducible refine Kd.C_drew ?_))); (case side2 => exact (Kd.R_reads' HO_8.out).2.1); rintro e w50 ⟨v422, rfl, ho0, hb⟩; refine ⟨_, rfl, ?_⟩; have n0_ := Aside0.mk (Kd.R_elder' (by (with_reducible repeat (first | apply Kd.R_alloc | apply Kd.R_drewN | apply Kd.R_drew)); exact HO_7.out) (Kd.R_base ho0) hb); have n1_ := Aside0.mk (Kd.R_elder' (by (with_reducible repeat (first | apply Kd.R_alloc | apply Kd.R_drewN | apply Kd.R_drew)); exact HO_8.out) (Kd.R_base ho0) hb); have n2_ := Aside0.mk (Kd.R_lower (Kd.R_new' (Kd.R_new' ho0 (Kd.R_lt (by (with_reducible repeat (first | apply Kd.R_alloc | apply Kd.R_drewN | apply Kd.R_drew)); exact HO_7.out))) (Kd.R_lt (by (with_reducible repeat (first | apply Kd.R_alloc | apply Kd.R_drewN | apply Kd.R_drew)); exact HO_8.out))) (below_size (by repeat (first | (with_reducible first | exact HB.out | apply below_alloc | apply pw_below_drewN | apply below_drew1) | exact HB.out)))); have n3_ := Aside0.mk (below_step (by repeat (first | (with_reducible first | exact HB.out | apply below_alloc | apply pw_below_drewN | apply below_drew1) | exact HB.out)) hb); clear HO_7; clear HO_8; clear HB; have HO_7 := n0_; have HO_8 := n1_; have HO423 := n2_; have HB := n3_; clear n0_ n1_ n2_ n3_; (try clear hb); (try clear hb2); (try clear hk); (try clear hi); (try clear ho0); have q51 : ((wrap64 ((ji45) + 16)) : Int) ≤ ((x7_2.length : Int) : Int) := of_decide_eq_true (by first | (with_reducible assumption) | assumption); obtain ⟨i051, hi051, _, hsz51, _⟩ := info_parts info5; have hroom51 : x7_2.length ≤ co17 := (Kd.R_reads' HO_7.out).2.1; have hC51 : Kd.C (Kd.int .u8) _ Ao17 x7_2.length x7_2 := (Kd.R_reads' HO_7.out).2.2; have ql51 : ((ji45) : Int) ≤ ((wrap64 ((ji45) + 16)) : Int) := of_decide_eq_true (by first | (with_reducible assumption) | assumption); have q051 : (0 : Int) ≤ ((ji45) : Int) := of_decide_eq_true (by first | (with_reducible assumption) | assumption); have hcut51 := cut_mid (P := Try.prog) 29 5 .i64 .i64 Try.underlying29 hi051 1 hsz51 Ao17 x7_2.length co17 (ji45) (wrap64 ((ji45) + 16)) q051 ql51 q51 hroom51; have hr51 := Kd.C_mid (lo := ((ji45) : Int).toNat) (hi := ((wrap64 ((ji45) + 16)) : Int).toNat) (c := co17) hC51 (by omega) (by omega) hroom51; obtain ⟨A51, hA51⟩ : ∃ A1, A1 = (if co17 = ((ji45) : Int).toNat then Ao17 else (Ao17 : Option Addr).map (·.add (((ji45) : Int).toNat * 1))) := ⟨_, rfl⟩; obtain ⟨c51, hc51⟩ : ∃ c1, c1 = co17 - ((ji45) : Int).toNat := ⟨_, rfl⟩; have hy51 : y437.length = ((wrap64 ((ji45) + 16)) : Int).toNat - ((ji45) : Int).toNat := (by rw [Ny437.out, List.length_drop, List.length_take] <;> omega); rw [show ((x7_2).take ((wrap64 ((ji45) + 16)) : Int).toNat).drop ((ji45) : Int).toNat = y437 from Ny437.out.symm] at hr51; replace hr51 : Kd.C (Kd.int .u8) _ A51 y437.length y437 := (by rw [hA51]; exact hr51); rw [← hy51, ← hA51, ← hc51] at hcut51; have HR440 := Aside0.mk hr51; have HC440 := Aside0.mk (show y437.length ≤ c51 from by rw [hy51, hc51]; exact Nat.sub_le_sub_right (Nat.le_trans (by omega) hroom51) _); clear hr51 hC51 hroom51 hi051 hsz51 hc51; have KY51 := Aside0.mk hy51; have KA51 := Aside0.mk hA51; clear hy51 hA51; have KL51 := Aside0.mk (show ((wrap64 ((ji45) + 16)) : Int).toNat ≤ x7_2.length from by omega); have KM51 := Aside0.mk (show ((ji45) : Int).toNat ≤ ((wrap64 ((ji45) + 16)) : Int).toNat from by omega); replace q51 := eq_true q51; obtain ⟨Ao52, co52, eo52⟩ := Kd.R_slice HO423.out; subst eo52) | ((with_reducible refine gate_callee (f := 45) rfl ?_); refine goesL_ (some 62) rfl rfl Try.func45 (by kernel_rfl) rfl #[.slice Ao52 t421.length co52, .slice A51 y437.length c51] rfl (by (try simp only [List.map_toArray, List.map_cons, List.map_nil]); first | done | rfl | (simp only [List.length_drop, List.length_take]; rfl)) ?_; (with_reducible refine (spec_l1Xor.calls k3 _ _ t421 _ _ y437 t441 _ ?side1 ?side2 ?side3 ?side4 A49.out).mono ?_); (case side1 => repeat (first | exact (Kd.R_reads' HO423.out).2.2 | (with_reducible refine Kd.C_alloc ?_ _) | (with_reducible refine Kd.C_drewN ?_ _) | (with_reducible refine Kd.C_drew ?_))); (case side2 => exact (Kd.R_reads' HO423.out).2.1); (case side3 => repeat (first | exact (by repeat (first | (with_reducible exact HR440.out) | (with_reducible refine Kd.C_alloc ?_ _) | (with_reducible refine Kd.C_drewN ?_ _) | (with_reducible refine Kd.C_drew ?_) | exact HR440.out)) | (with_reducible refine Kd.C_alloc ?_ _) | (with_reducible refine Kd.C_drewN ?_ _) | (with_reducible refine Kd.C_drew ?_))); (case side4 => exact HC440.out); rintro e w53 ⟨v442, rfl, ho0, hb⟩; refine ⟨_, rfl, ?_⟩; have n0_ := Aside0.mk (Kd.R_elder' (by (with_reducible repeat (first | apply Kd.R_alloc | apply Kd.R_drewN | apply Kd.R_drew)); exact HO_7.out) (Kd.R_base ho0) hb); have n1_ := Aside0.mk (Kd.R_elder' (by (with_reducible repeat (first | apply Kd.R_alloc | apply Kd.R_drewN | apply Kd.R_drew)); exact HO_8.out) (Kd.R_base ho0) hb); have n2_ := Aside0.mk (Kd.R_elder' (by (with_reducible repeat (first | apply Kd.R_alloc | apply Kd.R_drewN | apply Kd.R_drew)); exact HO423.out) (Kd.R_base ho0) hb); have n3_ := Aside0.mk (Kd.R_lower (Kd.R_new' (Kd.R_new' (Kd.R_new' ho0 (Kd.R_lt (by (with_reducible repeat (first | apply Kd.R_alloc | apply Kd.R_drewN | apply Kd.R_drew)); exact HO_7.out))) (Kd.R_lt (by (with_reducible repeat (first | apply Kd.R_alloc | apply Kd.R_drewN | apply Kd.R_drew)); exact HO_8.out))) (Kd.R_lt (by (with_reducible repeat (first | apply Kd.R_alloc | apply Kd.R_drewN | apply Kd.R_drew)); exact HO423.out))) (below_size (by repeat (first | (with_reducible first | exact HB.out | apply below_alloc | apply pw_below_drewN | apply below_drew1) | exact HB.out)))); have n4_ := Aside0.mk (Kd.C_below (by repeat (first | (with_reducible exact HR440.out) | (with_reducible refine Kd.C_alloc ?_ _) | (with_reducible refine Kd.C_drewN ?_ _) | (with_reducible refine Kd.C_drew ?_) | exact HR440.out)) hb); have n5_ := Aside0.mk (below_step (by repeat (first | (with_reducible first | exact HB.out | apply below_alloc | apply pw_below_drewN | apply below_drew1) | exact HB.out)) hb); clear HO_7; clear HO_8; clear HO423; clear HR440; clear HB; have HO_7 := n0_; have HO_8 := n1_; have HO423 := n2_; have HO443 := n3_; have HR440 := n4_; have HB := n5_; clear n0_ n1_ n2_ n3_ n4_ n5_; (try clear hb); (try clear hb2); (try clear hk); (try clear hi); (try clear ho0)))
                                (try simp only [← hl7_2, ← hl8_3])
                                go_roundg k3
                                case measure => have := HJ3.out; have := HK2.out; have := HK3.out; omega
                                case rel => exact ⟨(x7_2), (t441), (wrap64 (x9_2 + 1)), (by first | rfl | (simp; done) | (simp [*]; done)), H', ⟨by have := HJ3.out; have := HK2.out; have := HK3.out; omega⟩, ⟨by (try simp only [hl7_2]); (try simp only [hl8_3]); (with_reducible repeat (first | apply Kd.R_alloc | apply Kd.R_drewN | apply Kd.R_drew)); exact Kd.R_mono HO_7.out (fun _ hk => hk.2)⟩, ⟨by (try simp only [hl7_2]); (try simp only [hl8_3]); (with_reducible repeat (first | apply Kd.R_alloc | apply Kd.R_drewN | apply Kd.R_drew)); exact Kd.R_mono HO443.out (fun _ hk => hk.1.1.2)⟩, ⟨by repeat (first | (with_reducible first | exact HB.out | apply below_alloc | apply pw_below_drewN | apply below_drew1) | exact HB.out)⟩⟩
                              · rw [if_neg c48] at H
                                exact absurd H (by simp)
                            · rw [if_neg c47] at H
                              exact absurd H (by simp)
                          · rw [if_neg c46] at H
                            exact absurd H (by simp)
                · rw [if_neg c19] at H
                  have c19b0 : decide (x9_2 ≤ 10) = false := decide_eq_false c19
                  clear c19
                  obtain rfl := Option.some.inj H
                  go_wp2
                  go_ret
                  exact ⟨_, by first | rfl | (simp [errW_none, errW_some] <;> rfl) | (simp [*, errW_none, errW_some] <;> rfl), by (with_reducible repeat (first | apply Kd.R_alloc | apply Kd.R_drewN | apply Kd.R_drew)); exact Kd.R_mono HO_8.out (fun _ hk => trivial), by repeat (first | (with_reducible first | exact HB.out | apply below_alloc | apply pw_below_drewN | apply below_drew1) | exact HB.out)⟩
          · rw [if_neg c13] at H
            exact absurd H (by simp)

def spec_l2Double.f (k : Nat) (l0 : List Int) : Option (List Int) := (spec_l1Bits.f k l0).bind fun t444 => (if 1 ≤ (t444.length : Int) then ((spec_l1Bytes.f (t444.drop 1)).bind fun t451 => (if t451.length < 140737488355328 then ((spec_l1Unbits.f k (t451 ++ [0])).bind fun t457 => (if 0 < (t444.length : Int) then (if (rd t444 0) = 1 then (if 15 < (t457.length : Int) then (some (t457.set (15 : Int).toNat (Go.bits .xor .u8 (rd t457 15) 135))) else (none)) else (some t457)) else (none))) else (none))) else (none))
set_option maxHeartbeats 8000000 in
set_option maxRecDepth 100000 in
theorem spec_l2Double.calls (k : Nat) (A0 : Option Addr) (c0 : Nat) (l0 : List Int) (r : List Int) (w : World) (hr0 : Kd.C (Kd.int .u8) w A0 l0.length l0) (hc0 : l0.length ≤ c0) (h : spec_l2Double.f k l0 = some r) :
    Calls Try.prog 117 #[.slice A0 l0.length c0] w fun e w' => ∃ v0_ : Value, e = .returned (v0_) ∧ Kd.R (Kd.int .u8) 5 w' w.heap.size (fun _ => True) v0_ r ∧ Below w.heap.size w w' := by
  have HR0 := Aside0.mk hr0
  have HC0 := Aside0.mk hc0
  clear hr0 hc0
  have HB := Aside0.mk (Below.refl w.heap.size w)
  have H : ((spec_l1Bits.f k l0).bind fun t444 => (if 1 ≤ (t444.length : Int) then ((spec_l1Bytes.f (t444.drop 1)).bind fun t451 => (if t451.length < 140737488355328 then ((spec_l1Unbits.f k (t451 ++ [0])).bind fun t457 => (if 0 < (t444.length : Int) then (if (rd t444 0) = 1 then (if 15 < (t457.length : Int) then (some (t457.set (15 : Int).toNat (Go.bits .xor .u8 (rd t457 15) 135))) else (none)) else (some t457)) else (none))) else (none))) else (none))) = some r := h
  clear h
  replace H := Option.bind_eq_some_iff.mp H
  obtain ⟨t444, A20, H⟩ := H
  replace H : (if 1 ≤ (t444.length : Int) then ((spec_l1Bytes.f (t444.drop 1)).bind fun t451 => (if t451.length < 140737488355328 then ((spec_l1Unbits.f k (t451 ++ [0])).bind fun t457 => (if 0 < (t444.length : Int) then (if (rd t444 0) = 1 then (if 15 < (t457.length : Int) then (some (t457.set (15 : Int).toNat (Go.bits .xor .u8 (rd t457 15) 135))) else (none)) else (some t457)) else (none))) else (none))) else (none)) = some r := H
  have A2 := Aside0.mk A20
  clear A20
  by_cases c3 : 1 ≤ (t444.length : Int)
  · rw [if_pos c3] at H
    have c3b0 := eq_true c3
    have c3b1 : decide (1 ≤ (t444.length : Int)) = true := decide_eq_true c3
    clear c3
    obtain ⟨y447, hy447⟩ : ∃ y_ : List Int, y_ = (t444.drop 1) := ⟨_, rfl⟩
    replace H : ((spec_l1Bytes.f y447).bind fun t451 => (if t451.length < 140737488355328 then ((spec_l1Unbits.f k (t451 ++ [0])).bind fun t457 => (if 0 < (t444.length : Int) then (if (rd t444 0) = 1 then (if 15 < (t457.length : Int) then (some (t457.set (15 : Int).toNat (Go.bits .xor .u8 (rd t457 15) 135))) else (none)) else (some t457)) else (none))) else (none))) = some r := by first | (rw [hy447]; with_reducible exact H) | (have H2_ := (Option.bind_some _ _).symm.trans H; rw [hy447]; with_reducible exact H2_) | (have H2_ := (Option.bind_some _ _).symm.trans H; with_reducible exact H2_) | with_reducible exact H | (rw [hy447]; exact H) | exact H
    have Ny447 := Aside0.mk hy447
    clear hy447
    replace H := Option.bind_eq_some_iff.mp H
    obtain ⟨t451, A40, H⟩ := H
    replace H : (if t451.length < 140737488355328 then ((spec_l1Unbits.f k (t451 ++ [0])).bind fun t457 => (if 0 < (t444.length : Int) then (if (rd t444 0) = 1 then (if 15 < (t457.length : Int) then (some (t457.set (15 : Int).toNat (Go.bits .xor .u8 (rd t457 15) 135))) else (none)) else (some t457)) else (none))) else (none)) = some r := H
    have A4 := Aside0.mk A40
    clear A40
    by_cases c5 : t451.length < 140737488355328
    · rw [if_pos c5] at H
      have LMc5 := Aside0.mk c5
      clear c5
      obtain ⟨y454, hy454⟩ : ∃ y_ : List Int, y_ = (t451 ++ [0]) := ⟨_, rfl⟩
      replace H : ((spec_l1Unbits.f k y454).bind fun t457 => (if 0 < (t444.length : Int) then (if (rd t444 0) = 1 then (if 15 < (t457.length : Int) then (some (t457.set (15 : Int).toNat (Go.bits .xor .u8 (rd t457 15) 135))) else (none)) else (some t457)) else (none))) = some r := by first | (rw [hy454]; with_reducible exact H) | (have H2_ := (Option.bind_some _ _).symm.trans H; rw [hy454]; with_reducible exact H2_) | (have H2_ := (Option.bind_some _ _).symm.trans H; with_reducible exact H2_) | with_reducible exact H | (rw [hy454]; exact H) | exact H
      have Ny454 := Aside0.mk hy454
      clear hy454
      replace H := Option.bind_eq_some_iff.mp H
      obtain ⟨t457, A60, H⟩ := H
      replace H : (if 0 < (t444.length : Int) then (if (rd t444 0) = 1 then (if 15 < (t457.length : Int) then (some (t457.set (15 : Int).toNat (Go.bits .xor .u8 (rd t457 15) 135))) else (none)) else (some t457)) else (none)) = some r := H
      have A6 := Aside0.mk A60
      clear A60
      by_cases c7 : 0 < (t444.length : Int)
      · rw [if_pos c7] at H
        have c7b0 : decide (0 < (t444.length : Int)) = true := decide_eq_true c7
        have c7b1 : decide (0 < t444.length) = true := decide_eq_true (by omega)
        clear c7
        by_cases c8 : (rd t444 0) = 1
        · rw [if_pos c8] at H
          have c8b0 : ((rd t444 0) == 1) = true := beq_iff_eq.mpr c8
          have c8b1 : ((rd t444 0) != 1) = false := bne_eq_false_iff_eq.mpr c8
          clear c8
          by_cases c9 : 15 < (t457.length : Int)
          · rw [if_pos c9] at H
            have c9b0 : decide (15 < (t457.length : Int)) = true := decide_eq_true c9
            have c9b1 : decide (15 < t457.length) = true := decide_eq_true (by omega)
            clear c9
            obtain ⟨y462, hy462⟩ : ∃ y_ : List Int, y_ = (t457.set (15 : Int).toNat (Go.bits .xor .u8 (rd t457 15) 135)) := ⟨_, rfl⟩
            replace H : (some y462) = some r := by first | (rw [hy462]; with_reducible exact H) | (have H2_ := (Option.bind_some _ _).symm.trans H; rw [hy462]; with_reducible exact H2_) | (have H2_ := (Option.bind_some _ _).symm.trans H; with_reducible exact H2_) | with_reducible exact H | (rw [hy462]; exact H) | exact H
            have Ny462 := Aside0.mk hy462
            clear hy462
            obtain rfl := Option.some.inj H
            go_enter Try.func117, Try.ntmps117
            go_wp2_with (first | ((with_reducible refine gate_callee (f := 96) rfl ?_); refine goesL_ (some 6) rfl rfl Try.func96 (by kernel_rfl) rfl #[.slice A0 l0.length c0] rfl (by (try simp only [List.map_toArray, List.map_cons, List.map_nil]); first | done | rfl | (simp only [List.length_drop, List.length_take]; rfl)) ?_; (with_reducible refine (spec_l1Bits.calls k _ _ l0 t444 _ ?side1 ?side2 A2.out).mono ?_); (case side1 => repeat (first | exact HR0.out | (with_reducible refine Kd.C_alloc ?_ _) | (with_reducible refine Kd.C_drewN ?_ _) | (with_reducible refine Kd.C_drew ?_))); (case side2 => exact HC0.out); rintro e w11 ⟨v445, rfl, ho0, hb⟩; refine ⟨_, rfl, ?_⟩; have n0_ := Aside0.mk (Kd.R_lower ho0 (below_size (by repeat (first | (with_reducible first | exact HB.out | apply below_alloc | apply pw_below_drewN | apply below_drew1) | exact HB.out)))); have n1_ := Aside0.mk (below_step (by repeat (first | (with_reducible first | exact HB.out | apply below_alloc | apply pw_below_drewN | apply below_drew1) | exact HB.out)) hb); clear HB; have HO446 := n0_; have HB := n1_; clear n0_ n1_; (try clear hb); (try clear hb2); (try clear hk); (try clear hi); (try clear ho0); obtain ⟨Ao13, co13, eo13⟩ := Kd.R_slice HO446.out; subst eo13; have q12 : (1 : Int) ≤ ((t444.length : Int) : Int) := of_decide_eq_true (by first | (with_reducible assumption) | assumption); obtain ⟨i012, hi012, _, hsz12, _⟩ := info_parts info5; have hroom12 : t444.length ≤ co13 := (Kd.R_reads' HO446.out).2.1; have hC12 : Kd.C (Kd.int .u8) _ Ao13 t444.length t444 := (Kd.R_reads' HO446.out).2.2; have hcut12 := cut_from (P := Try.prog) 29 5 .i64 Try.underlying29 hi012 1 hsz12 Ao13 t444.length co13 1 (by omega) q12; have hr12 := Kd.C_drop (m := (1 : Int).toNat) (c := co13) hC12 (by omega) hroom12; obtain ⟨A12, hA12⟩ : ∃ A1, A1 = (if co13 = (1 : Int).toNat then Ao13 else (Ao13 : Option Addr).map (·.add ((1 : Int).toNat * 1))) := ⟨_, rfl⟩; obtain ⟨c12, hc12⟩ : ∃ c1, c1 = co13 - (1 : Int).toNat := ⟨_, rfl⟩; have hy12 : y447.length = t444.length - (1 : Int).toNat := (by rw [Ny447.out, List.length_drop] <;> omega); rw [show (t444).drop (1 : Int).toNat = y447 from Ny447.out.symm] at hr12; replace hr12 : Kd.C (Kd.int .u8) _ A12 y447.length y447 := (by rw [hA12]; exact hr12); rw [← hy12, ← hA12, ← hc12] at hcut12; have HR450 := Aside0.mk hr12; have HC450 := Aside0.mk (show y447.length ≤ c12 from by rw [hy12, hc12]; exact Nat.sub_le_sub_right hroom12 _); clear hr12 hC12 hroom12 hi012 hsz12 hc12; have KY12 := Aside0.mk hy12; have KA12 := Aside0.mk hA12; clear hy12 hA12; have KL12 := Aside0.mk (show 1 ≤ t444.length from by omega); replace q12 := eq_true q12) | ((with_reducible refine gate_callee (f := 97) rfl ?_); refine goesL_ (some 9) rfl rfl Try.func97 (by kernel_rfl) rfl #[.slice A12 y447.length c12] rfl (by (try simp only [List.map_toArray, List.map_cons, List.map_nil]); first | done | rfl | (simp only [List.length_drop, List.length_take]; rfl)) ?_; (with_reducible refine (spec_l1Bytes.calls _ _ y447 t451 _ ?side1 ?side2 A4.out).mono ?_); (case side1 => repeat (first | exact (by repeat (first | (with_reducible exact HR450.out) | (with_reducible refine Kd.C_alloc ?_ _) | (with_reducible refine Kd.C_drewN ?_ _) | (with_reducible refine Kd.C_drew ?_) | exact HR450.out)) | (with_reducible refine Kd.C_alloc ?_ _) | (with_reducible refine Kd.C_drewN ?_ _) | (with_reducible refine Kd.C_drew ?_))); (case side2 => exact HC450.out); rintro e w14 ⟨v452, rfl, ho0, hb⟩; refine ⟨_, rfl, ?_⟩; have n0_ := Aside0.mk (Kd.R_elder' (by (with_reducible repeat (first | apply Kd.R_alloc | apply Kd.R_drewN | apply Kd.R_drew)); exact HO446.out) (Kd.R_base ho0) hb); have n1_ := Aside0.mk (Kd.R_lower (Kd.R_new' ho0 (Kd.R_lt (by (with_reducible repeat (first | apply Kd.R_alloc | apply Kd.R_drewN | apply Kd.R_drew)); exact HO446.out))) (below_size (by repeat (first | (with_reducible first | exact HB.out | apply below_alloc | apply pw_below_drewN | apply below_drew1) | exact HB.out)))); have n2_ := Aside0.mk (Kd.C_below (by repeat (first | (with_reducible exact HR450.out) | (with_reducible refine Kd.C_alloc ?_ _) | (with_reducible refine Kd.C_drewN ?_ _) | (with_reducible refine Kd.C_drew ?_) | exact HR450.out)) hb); have n3_ := Aside0.mk (below_step (by repeat (first | (with_reducible first | exact HB.out | apply below_alloc | apply pw_below_drewN | apply below_drew1) | exact HB.out)) hb); clear HO446; clear HR450; clear HB; have HO446 := n0_; have HO453 := n1_; have HR450 := n2_; have HB := n3_; clear n0_ n1_ n2_ n3_; (try clear hb); (try clear hb2); (try clear hk); (try clear hi); (try clear ho0)) | ((with_reducible refine gate_builtin (b := .append) (xs := #[.tmp 9, .tmp 10]) rfl ?_); at_builtin; refine Kd.R_append (Kd.int .u8) (w0 := w) w.heap.size rfl (.tmp 9) (.tmp 10) 29 5 (.int .u8 0) 1 rfl Try.underlying29 info5 rfl (by decide) (by omega) v452 t451 0 [.int .u8 0] (fun k_ => some k_ ≠ (.slice Ao13 t444.length co13 : Value).ownBlock) (fun _ => False) rfl rfl ?aP (fun _ hk => hk.elim) ?aF ?aO ?aB ?aS ?aL ?_; (case aP => exact rfl); (case aB => exact (by repeat (first | (with_reducible first | exact HB.out | apply below_alloc | apply pw_below_drewN | apply below_drew1) | exact HB.out))); (case aF => exact (fun k_ hk => Kd.fresh' (Kd.R_lt (by (with_reducible repeat (first | apply Kd.R_alloc | apply Kd.R_drewN | apply Kd.R_drew)); exact HO446.out)) k_ hk)); (case aO => exact (by (with_reducible repeat (first | apply Kd.R_alloc | apply Kd.R_drewN | apply Kd.R_drew)); exact Kd.R_mono HO453.out (fun _ hk => hk.2))); (case aS => exact (below_size (by repeat (first | (with_reducible first | exact HB.out | apply below_alloc | apply pw_below_drewN | apply below_drew1) | exact HB.out)))); (case aL => have := LMc5.out; omega); intro v455 w15 ho hb hg hat; rw [← Ny454.out] at ho; have n0_ := Aside0.mk (Kd.R_after (ok := (fun _ => True)) (by (with_reducible repeat (first | apply Kd.R_alloc | apply Kd.R_drewN | apply Kd.R_drew)); exact HO446.out) hg hat); have n1_ := Aside0.mk (hb); have n2_ := Aside0.mk ((show Kd.C (Kd.int .u8) w15 A12 y447.length y447 from by rw [Ny447.out, KA12.out]; exact Kd.C_drop (m := 1) (c := co13) ((Kd.R_reads' (Kd.R_after (ok := (fun _ => True)) (by (with_reducible repeat (first | apply Kd.R_alloc | apply Kd.R_drewN | apply Kd.R_drew)); exact HO446.out) hg hat)).2.2) KL12.out ((Kd.R_reads' (Kd.R_after (ok := (fun _ => True)) (by (with_reducible repeat (first | apply Kd.R_alloc | apply Kd.R_drewN | apply Kd.R_drew)); exact HO446.out) hg hat)).2.1))); have n3_ := Aside0.mk (ho); clear HO446; clear HB; clear HR450; clear HO453; have HO446 := n0_; have HB := n1_; have HR450 := n2_; have HO456 := n3_; clear n0_ n1_ n2_ n3_; clear ho hb hg hat; obtain ⟨Ao16, co16, eo16⟩ := Kd.R_slice HO456.out; subst eo16) | ((with_reducible refine gate_callee (f := 60) rfl ?_); refine goesL_ (some 12) rfl rfl Try.func60 (by kernel_rfl) rfl #[.slice Ao16 y454.length co16] rfl (by (try simp only [List.map_toArray, List.map_cons, List.map_nil]); first | done | rfl | (simp only [List.length_drop, List.length_take]; rfl)) ?_; (with_reducible refine (spec_l1Unbits.calls k _ _ y454 t457 _ ?side1 ?side2 A6.out).mono ?_); (case side1 => repeat (first | exact (Kd.R_reads' HO456.out).2.2 | (with_reducible refine Kd.C_alloc ?_ _) | (with_reducible refine Kd.C_drewN ?_ _) | (with_reducible refine Kd.C_drew ?_))); (case side2 => exact (Kd.R_reads' HO456.out).2.1); rintro e w17 ⟨v458, rfl, ho0, hb⟩; refine ⟨_, rfl, ?_⟩; have n0_ := Aside0.mk (Kd.R_elder' (by (with_reducible repeat (first | apply Kd.R_alloc | apply Kd.R_drewN | apply Kd.R_drew)); exact HO446.out) (Kd.R_base ho0) hb); have n1_ := Aside0.mk (Kd.R_elder' (by (with_reducible repeat (first | apply Kd.R_alloc | apply Kd.R_drewN | apply Kd.R_drew)); exact HO456.out) (Kd.R_base ho0) hb); have n2_ := Aside0.mk (Kd.R_lower (Kd.R_new' (Kd.R_new' ho0 (Kd.R_lt (by (with_reducible repeat (first | apply Kd.R_alloc | apply Kd.R_drewN | apply Kd.R_drew)); exact HO446.out))) (Kd.R_lt (by (with_reducible repeat (first | apply Kd.R_alloc | apply Kd.R_drewN | apply Kd.R_drew)); exact HO456.out))) (below_size (by repeat (first | (with_reducible first | exact HB.out | apply below_alloc | apply pw_below_drewN | apply below_drew1) | exact HB.out)))); have n3_ := Aside0.mk (Kd.C_below (by repeat (first | (with_reducible exact HR450.out) | (with_reducible refine Kd.C_alloc ?_ _) | (with_reducible refine Kd.C_drewN ?_ _) | (with_reducible refine Kd.C_drew ?_) | exact HR450.out)) hb); have n4_ := Aside0.mk (below_step (by repeat (first | (with_reducible first | exact HB.out | apply below_alloc | apply pw_below_drewN | apply below_drew1) | exact HB.out)) hb); clear HO446; clear HO456; clear HR450; clear HB; have HO446 := n0_; have HO456 := n1_; have HO459 := n2_; have HR450 := n3_; have HB := n4_; clear n0_ n1_ n2_ n3_ n4_; (try clear hb); (try clear hb2); (try clear hk); (try clear hi); (try clear ho0); have p460 : 0 ≤ (0 : Int) := (by omega); have q460 : 0 < (t444.length : Int) := of_decide_eq_true (by first | (with_reducible assumption) | assumption); obtain ⟨ad460, e460, hx460_0⟩ := Kd.at_int (Kd.R_reads' HO446.out).2.2 0 p460 q460; cases e460; have qi460 : (0 < t444.length) = True := eq_true (by omega); (try rw [show ((0 : Int)).toNat = 0 from rfl] at hx460_0); (try rw [Addr.add_zero'] at hx460_0); replace p460 := eq_true p460; replace q460 := eq_true q460; obtain ⟨Ao18, co18, eo18⟩ := Kd.R_slice HO459.out; subst eo18; have p461 : 0 ≤ (15 : Int) := (by omega); have q461 : 15 < (t457.length : Int) := of_decide_eq_true (by first | (with_reducible assumption) | assumption); obtain ⟨ad461, e461, hx461_0⟩ := Kd.at_int (Kd.R_reads' HO459.out).2.2 15 p461 q461; cases e461; (try simp only [show (15 : Int).toNat = 15 from rfl, Nat.reduceMul, Nat.reduceEqDiff, Go.Addr.add, ↓reduceIte] at hx461_0); have qi461 : (15 < t457.length) = True := eq_true (by omega); (try rw [show ((15 : Int)).toNat = 15 from rfl] at hx461_0); replace p461 := eq_true p461; replace q461 := eq_true q461; have p10 : 0 ≤ (15 : Int) := (by omega); have q10 : (15 : Int) < ((t457.length : Int) : Int) := of_decide_eq_true (by first | (with_reducible assumption) | assumption); have qi10 : (15 < t457.length) = True := eq_true (by omega); obtain ⟨go10, co10, eo10, gb10, gl10, cl10, HG10⟩ := Kd.R_form HO459.out (by omega); (first | cases eo10 | (injection eo10 with ea_ en_ ec_; (first | subst ea_ | (injection ea_ with ea_; subst ea_)); subst ec_; clear en_)); have GB10 := Aside0.mk gb10; have GG10 := Aside0.mk HG10; clear gb10 gl10 HG10; (first | simp only [add_plain] at hx461_0 | skip); obtain ⟨hx10_0, hf10_0⟩ := Kd.R_celln 0 HO459.out (15 : Int) p10 q10; (try rw [show ((15 : Int)).toNat = 15 from rfl] at hx10_0); (try simp only [Nat.reduceMul, Nat.zero_mul, Nat.zero_add, Nat.reduceAdd] at hx10_0); (try rw [show ((15 : Int)).toNat = 15 from rfl] at hf10_0); (try simp only [Nat.reduceMul, Nat.zero_mul, Nat.zero_add, Nat.reduceAdd] at hf10_0); replace p10 := eq_true p10; replace q10 := eq_true q10; have n_ := Aside0.mk (Kd.R_mono (ok' := (fun k_ => some k_ ≠ (.slice (some ad460) t444.length co13 : Value).ownBlock ∧ some k_ ≠ (.slice Ao16 y454.length co16 : Value).ownBlock)) HO459.out (fun k_ hk => ⟨hk.1.2, hk.2⟩)); clear HO459; have HO459 := n_; clear n_; obtain ⟨hy19_, hz19_⟩ := Kd.R_celln 0 HO459.out (15 : Int) (by omega) (of_decide_eq_true (by first | (with_reducible assumption) | assumption)); (try simp only [Int.reduceToNat, Int.toNat_zero, Int.toNat_ofNat, Nat.reduceMul, Nat.zero_mul, Nat.zero_add] at hy19_ hz19_); (try rw [show ((15 : Int)).toNat = 15 from rfl] at hy19_); (try rw [show ((15 : Int)).toNat = 15 from rfl] at hz19_); have HP19 := Kd.R_putg HO459.out (15 : Int) (Go.bits .xor .u8 (rd t457 15) 135)) | ((with_reducible refine gate_store (t := 5) (p := 21) rfl ?_); refine store_event (t := 5) (p := 21) (v := ?vo_w20) (w1 := (w17.setCell ⟨go10, (15 : Int).toNat, none⟩ (.int .u8 (Go.bits .xor .u8 (rd t457 15) 135)))) ?hg ?ho ?hn ?hr ?_; (case ho => rfl); (case hg => rfl); (case hn => rfl); (case hr => first | (go_simp; done) | (go_simp; rfl)); intro w20 hw; have hg : w17.grownBy w20 (some go10) := (by rw [hw]; exact HP19.2); have hp_ : Kd.R (Kd.int .u8) 5 w20 w.heap.size (fun k_ => some k_ ≠ (.slice (some ad460) t444.length co13 : Value).ownBlock ∧ some k_ ≠ (.slice Ao16 y454.length co16 : Value).ownBlock) (.slice (some ⟨go10, 0, none⟩) t457.length co18) y462 := (by rw [hw, Ny462.out]; exact HP19.1); clear HP19; have n0_ := Aside0.mk (Kd.R_after (v := (.slice (some ⟨go10, 0, none⟩) t457.length co18)) (v1 := (.slice (some ⟨go10, 0, none⟩) t457.length co18)) (ok := (fun k_ => some k_ ≠ (.slice Ao16 y454.length co16 : Value).ownBlock)) (by (with_reducible repeat (first | apply Kd.R_alloc | apply Kd.R_drewN | apply Kd.R_drew)); exact Kd.R_mono HO446.out (fun _ hk => ⟨hk.1.2, hk.2⟩)) hg (.inl rfl)); have n1_ := Aside0.mk (Kd.R_after (v := (.slice (some ⟨go10, 0, none⟩) t457.length co18)) (v1 := (.slice (some ⟨go10, 0, none⟩) t457.length co18)) (ok := (fun k_ => some k_ ≠ (.slice (some ad460) t444.length co13 : Value).ownBlock)) (by (with_reducible repeat (first | apply Kd.R_alloc | apply Kd.R_drewN | apply Kd.R_drew)); exact HO456.out) hg (.inl rfl)); have n2_ := Aside0.mk (hp_); have n3_ := Aside0.mk ((by rw [hw]; exact below_set (HB.out) GB10.out : Below w.heap.size w w20)); have n4_ := Aside0.mk ((show Kd.C (Kd.int .u8) w20 A12 y447.length y447 from by rw [Ny447.out, KA12.out]; exact Kd.C_drop (m := 1) (c := co13) ((Kd.R_reads' (Kd.R_after (v := (.slice (some ⟨go10, 0, none⟩) t457.length co18)) (v1 := (.slice (some ⟨go10, 0, none⟩) t457.length co18)) (ok := (fun k_ => some k_ ≠ (.slice Ao16 y454.length co16 : Value).ownBlock)) (by (with_reducible repeat (first | apply Kd.R_alloc | apply Kd.R_drewN | apply Kd.R_drew)); exact Kd.R_mono HO446.out (fun _ hk => ⟨hk.1.2, hk.2⟩)) hg (.inl rfl))).2.2) KL12.out ((Kd.R_reads' (Kd.R_after (v := (.slice (some ⟨go10, 0, none⟩) t457.length co18)) (v1 := (.slice (some ⟨go10, 0, none⟩) t457.length co18)) (ok := (fun k_ => some k_ ≠ (.slice Ao16 y454.length co16 : Value).ownBlock)) (by (with_reducible repeat (first | apply Kd.R_alloc | apply Kd.R_drewN | apply Kd.R_drew)); exact Kd.R_mono HO446.out (fun _ hk => ⟨hk.1.2, hk.2⟩)) hg (.inl rfl))).2.1))); clear HO446; clear HO456; clear HO459; clear HB; clear HR450; have HO446 := n0_; have HO456 := n1_; have HO459 := n2_; have HB := n3_; have HR450 := n4_; clear n0_ n1_ n2_ n3_ n4_; clear hg hw hp_))
            go_ret
            exact ⟨_, by first | rfl | (simp [errW_none, errW_some] <;> rfl) | (simp [*, errW_none, errW_some] <;> rfl), by (with_reducible repeat (first | apply Kd.R_alloc | apply Kd.R_drewN | apply Kd.R_drew)); exact Kd.R_mono HO459.out (fun _ hk => trivial), by repeat (first | (with_reducible first | exact HB.out | apply below_alloc | apply pw_below_drewN | apply below_drew1) | exact HB.out)⟩
          · rw [if_neg c9] at H
            exact absurd H (by simp)
        · rw [if_neg c8] at H
          have c8b0 : ((rd t444 0) == 1) = false := beq_eq_false_iff_ne.mpr c8
          have c8b1 : ((rd t444 0) != 1) = true := bne_iff_ne.mpr c8
          obtain rfl := Option.some.inj H
          go_enter Try.func117, Try.ntmps117
          go_wp2_with (first | ((with_reducible refine gate_callee (f := 96) rfl ?_); refine goesL_ (some 6) rfl rfl Try.func96 (by kernel_rfl) rfl #[.slice A0 l0.length c0] rfl (by (try simp only [List.map_toArray, List.map_cons, List.map_nil]); first | done | rfl | (simp only [List.length_drop, List.length_take]; rfl)) ?_; (with_reducible refine (spec_l1Bits.calls k _ _ l0 t444 _ ?side1 ?side2 A2.out).mono ?_); (case side1 => repeat (first | exact HR0.out | (with_reducible refine Kd.C_alloc ?_ _) | (with_reducible refine Kd.C_drewN ?_ _) | (with_reducible refine Kd.C_drew ?_))); (case side2 => exact HC0.out); rintro e w21 ⟨v445, rfl, ho0, hb⟩; refine ⟨_, rfl, ?_⟩; have n0_ := Aside0.mk (Kd.R_lower ho0 (below_size (by repeat (first | (with_reducible first | exact HB.out | apply below_alloc | apply pw_below_drewN | apply below_drew1) | exact HB.out)))); have n1_ := Aside0.mk (below_step (by repeat (first | (with_reducible first | exact HB.out | apply below_alloc | apply pw_below_drewN | apply below_drew1) | exact HB.out)) hb); clear HB; have HO446 := n0_; have HB := n1_; clear n0_ n1_; (try clear hb); (try clear hb2); (try clear hk); (try clear hi); (try clear ho0); obtain ⟨Ao23, co23, eo23⟩ := Kd.R_slice HO446.out; subst eo23; have q22 : (1 : Int) ≤ ((t444.length : Int) : Int) := of_decide_eq_true (by first | (with_reducible assumption) | assumption); obtain ⟨i022, hi022, _, hsz22, _⟩ := info_parts info5; have hroom22 : t444.length ≤ co23 := (Kd.R_reads' HO446.out).2.1; have hC22 : Kd.C (Kd.int .u8) _ Ao23 t444.length t444 := (Kd.R_reads' HO446.out).2.2; have hcut22 := cut_from (P := Try.prog) 29 5 .i64 Try.underlying29 hi022 1 hsz22 Ao23 t444.length co23 1 (by omega) q22; have hr22 := Kd.C_drop (m := (1 : Int).toNat) (c := co23) hC22 (by omega) hroom22; obtain ⟨A22, hA22⟩ : ∃ A1, A1 = (if co23 = (1 : Int).toNat then Ao23 else (Ao23 : Option Addr).map (·.add ((1 : Int).toNat * 1))) := ⟨_, rfl⟩; obtain ⟨c22, hc22⟩ : ∃ c1, c1 = co23 - (1 : Int).toNat := ⟨_, rfl⟩; have hy22 : y447.length = t444.length - (1 : Int).toNat := (by rw [Ny447.out, List.length_drop] <;> omega); rw [show (t444).drop (1 : Int).toNat = y447 from Ny447.out.symm] at hr22; replace hr22 : Kd.C (Kd.int .u8) _ A22 y447.length y447 := (by rw [hA22]; exact hr22); rw [← hy22, ← hA22, ← hc22] at hcut22; have HR450 := Aside0.mk hr22; have HC450 := Aside0.mk (show y447.length ≤ c22 from by rw [hy22, hc22]; exact Nat.sub_le_sub_right hroom22 _); clear hr22 hC22 hroom22 hi022 hsz22 hc22; have KY22 := Aside0.mk hy22; have KA22 := Aside0.mk hA22; clear hy22 hA22; have KL22 := Aside0.mk (show 1 ≤ t444.length from by omega); replace q22 := eq_true q22) | ((with_reducible refine gate_callee (f := 97) rfl ?_); refine goesL_ (some 9) rfl rfl Try.func97 (by kernel_rfl) rfl #[.slice A22 y447.length c22] rfl (by (try simp only [List.map_toArray, List.map_cons, List.map_nil]); first | done | rfl | (simp only [List.length_drop, List.length_take]; rfl)) ?_; (with_reducible refine (spec_l1Bytes.calls _ _ y447 t451 _ ?side1 ?side2 A4.out).mono ?_); (case side1 => repeat (first | exact (by repeat (first | (with_reducible exact HR450.out) | (with_reducible refine Kd.C_alloc ?_ _) | (with_reducible refine Kd.C_drewN ?_ _) | (with_reducible refine Kd.C_drew ?_) | exact HR450.out)) | (with_reducible refine Kd.C_alloc ?_ _) | (with_reducible refine Kd.C_drewN ?_ _) | (with_reducible refine Kd.C_drew ?_))); (case side2 => exact HC450.out); rintro e w24 ⟨v452, rfl, ho0, hb⟩; refine ⟨_, rfl, ?_⟩; have n0_ := Aside0.mk (Kd.R_elder' (by (with_reducible repeat (first | apply Kd.R_alloc | apply Kd.R_drewN | apply Kd.R_drew)); exact HO446.out) (Kd.R_base ho0) hb); have n1_ := Aside0.mk (Kd.R_lower (Kd.R_new' ho0 (Kd.R_lt (by (with_reducible repeat (first | apply Kd.R_alloc | apply Kd.R_drewN | apply Kd.R_drew)); exact HO446.out))) (below_size (by repeat (first | (with_reducible first | exact HB.out | apply below_alloc | apply pw_below_drewN | apply below_drew1) | exact HB.out)))); have n2_ := Aside0.mk (Kd.C_below (by repeat (first | (with_reducible exact HR450.out) | (with_reducible refine Kd.C_alloc ?_ _) | (with_reducible refine Kd.C_drewN ?_ _) | (with_reducible refine Kd.C_drew ?_) | exact HR450.out)) hb); have n3_ := Aside0.mk (below_step (by repeat (first | (with_reducible first | exact HB.out | apply below_alloc | apply pw_below_drewN | apply below_drew1) | exact HB.out)) hb); clear HO446; clear HR450; clear HB; have HO446 := n0_; have HO453 := n1_; have HR450 := n2_; have HB := n3_; clear n0_ n1_ n2_ n3_; (try clear hb); (try clear hb2); (try clear hk); (try clear hi); (try clear ho0)) | ((with_reducible refine gate_builtin (b := .append) (xs := #[.tmp 9, .tmp 10]) rfl ?_); at_builtin; refine Kd.R_append (Kd.int .u8) (w0 := w) w.heap.size rfl (.tmp 9) (.tmp 10) 29 5 (.int .u8 0) 1 rfl Try.underlying29 info5 rfl (by decide) (by omega) v452 t451 0 [.int .u8 0] (fun k_ => some k_ ≠ (.slice Ao23 t444.length co23 : Value).ownBlock) (fun _ => False) rfl rfl ?aP (fun _ hk => hk.elim) ?aF ?aO ?aB ?aS ?aL ?_; (case aP => exact rfl); (case aB => exact (by repeat (first | (with_reducible first | exact HB.out | apply below_alloc | apply pw_below_drewN | apply below_drew1) | exact HB.out))); (case aF => exact (fun k_ hk => Kd.fresh' (Kd.R_lt (by (with_reducible repeat (first | apply Kd.R_alloc | apply Kd.R_drewN | apply Kd.R_drew)); exact HO446.out)) k_ hk)); (case aO => exact (by (with_reducible repeat (first | apply Kd.R_alloc | apply Kd.R_drewN | apply Kd.R_drew)); exact Kd.R_mono HO453.out (fun _ hk => hk.2))); (case aS => exact (below_size (by repeat (first | (with_reducible first | exact HB.out | apply below_alloc | apply pw_below_drewN | apply below_drew1) | exact HB.out)))); (case aL => have := LMc5.out; omega); intro v455 w25 ho hb hg hat; rw [← Ny454.out] at ho; have n0_ := Aside0.mk (Kd.R_after (ok := (fun _ => True)) (by (with_reducible repeat (first | apply Kd.R_alloc | apply Kd.R_drewN | apply Kd.R_drew)); exact HO446.out) hg hat); have n1_ := Aside0.mk (hb); have n2_ := Aside0.mk ((show Kd.C (Kd.int .u8) w25 A22 y447.length y447 from by rw [Ny447.out, KA22.out]; exact Kd.C_drop (m := 1) (c := co23) ((Kd.R_reads' (Kd.R_after (ok := (fun _ => True)) (by (with_reducible repeat (first | apply Kd.R_alloc | apply Kd.R_drewN | apply Kd.R_drew)); exact HO446.out) hg hat)).2.2) KL22.out ((Kd.R_reads' (Kd.R_after (ok := (fun _ => True)) (by (with_reducible repeat (first | apply Kd.R_alloc | apply Kd.R_drewN | apply Kd.R_drew)); exact HO446.out) hg hat)).2.1))); have n3_ := Aside0.mk (ho); clear HO446; clear HB; clear HR450; clear HO453; have HO446 := n0_; have HB := n1_; have HR450 := n2_; have HO456 := n3_; clear n0_ n1_ n2_ n3_; clear ho hb hg hat; obtain ⟨Ao26, co26, eo26⟩ := Kd.R_slice HO456.out; subst eo26) | ((with_reducible refine gate_callee (f := 60) rfl ?_); refine goesL_ (some 12) rfl rfl Try.func60 (by kernel_rfl) rfl #[.slice Ao26 y454.length co26] rfl (by (try simp only [List.map_toArray, List.map_cons, List.map_nil]); first | done | rfl | (simp only [List.length_drop, List.length_take]; rfl)) ?_; (with_reducible refine (spec_l1Unbits.calls k _ _ y454 t457 _ ?side1 ?side2 A6.out).mono ?_); (case side1 => repeat (first | exact (Kd.R_reads' HO456.out).2.2 | (with_reducible refine Kd.C_alloc ?_ _) | (with_reducible refine Kd.C_drewN ?_ _) | (with_reducible refine Kd.C_drew ?_))); (case side2 => exact (Kd.R_reads' HO456.out).2.1); rintro e w27 ⟨v458, rfl, ho0, hb⟩; refine ⟨_, rfl, ?_⟩; have n0_ := Aside0.mk (Kd.R_elder' (by (with_reducible repeat (first | apply Kd.R_alloc | apply Kd.R_drewN | apply Kd.R_drew)); exact HO446.out) (Kd.R_base ho0) hb); have n1_ := Aside0.mk (Kd.R_elder' (by (with_reducible repeat (first | apply Kd.R_alloc | apply Kd.R_drewN | apply Kd.R_drew)); exact HO456.out) (Kd.R_base ho0) hb); have n2_ := Aside0.mk (Kd.R_lower (Kd.R_new' (Kd.R_new' ho0 (Kd.R_lt (by (with_reducible repeat (first | apply Kd.R_alloc | apply Kd.R_drewN | apply Kd.R_drew)); exact HO446.out))) (Kd.R_lt (by (with_reducible repeat (first | apply Kd.R_alloc | apply Kd.R_drewN | apply Kd.R_drew)); exact HO456.out))) (below_size (by repeat (first | (with_reducible first | exact HB.out | apply below_alloc | apply pw_below_drewN | apply below_drew1) | exact HB.out)))); have n3_ := Aside0.mk (Kd.C_below (by repeat (first | (with_reducible exact HR450.out) | (with_reducible refine Kd.C_alloc ?_ _) | (with_reducible refine Kd.C_drewN ?_ _) | (with_reducible refine Kd.C_drew ?_) | exact HR450.out)) hb); have n4_ := Aside0.mk (below_step (by repeat (first | (with_reducible first | exact HB.out | apply below_alloc | apply pw_below_drewN | apply below_drew1) | exact HB.out)) hb); clear HO446; clear HO456; clear HR450; clear HB; have HO446 := n0_; have HO456 := n1_; have HO459 := n2_; have HR450 := n3_; have HB := n4_; clear n0_ n1_ n2_ n3_ n4_; (try clear hb); (try clear hb2); (try clear hk); (try clear hi); (try clear ho0); have p460 : 0 ≤ (0 : Int) := (by omega); have q460 : 0 < (t444.length : Int) := of_decide_eq_true (by first | (with_reducible assumption) | assumption); obtain ⟨ad460, e460, hx460_0⟩ := Kd.at_int (Kd.R_reads' HO446.out).2.2 0 p460 q460; cases e460; have qi460 : (0 < t444.length) = True := eq_true (by omega); (try rw [show ((0 : Int)).toNat = 0 from rfl] at hx460_0); (try rw [Addr.add_zero'] at hx460_0); replace p460 := eq_true p460; replace q460 := eq_true q460))
          go_ret
          exact ⟨_, by first | rfl | (simp [errW_none, errW_some] <;> rfl) | (simp [*, errW_none, errW_some] <;> rfl), by (with_reducible repeat (first | apply Kd.R_alloc | apply Kd.R_drewN | apply Kd.R_drew)); exact Kd.R_mono HO459.out (fun _ hk => trivial), by repeat (first | (with_reducible first | exact HB.out | apply below_alloc | apply pw_below_drewN | apply below_drew1) | exact HB.out)⟩
      · rw [if_neg c7] at H
        exact absurd H (by simp)
    · rw [if_neg c5] at H
      exact absurd H (by simp)
  · rw [if_neg c3] at H
    exact absurd H (by simp)

end Go.Proofs.Ytiejallnkgllnaa.LQ
namespace Go.Proofs.Ytiejallnkgllnaa.LQ
open Go.RowKit Go.Proofs.YtiejallnkgllnaaW.PrintWords Go.Proofs.YtiejallnkgllnaaW.PrintLast Go.Proofs.YtiejallnkgllnaaW.PrintMore
attribute [local go_sem] max2_int min2_int max_two min_two max_three min_three max_four min_four   -- for this text's walks alone
set_option linter.unusedVariables false
set_option linter.unusedSimpArgs false

mutual
def spec_Cmac.j0 : Nat → List Int → List Int → Bool → Option (List Int)
  | 0, _, _, _ => none
  | k + 1, x0, x1, x18 => if x18 = true then (some ([] : List Int)) else (if 16 ≤ 281474976710656 then ((spec_Aes.f k x0 (List.replicate 16 0) false).bind fun t466 => ((spec_l2Double.f k t466).bind fun t469 => ((spec_l1Bytes.f x1).bind fun t472 => (if (t472.length : Int) = 0 then (spec_Cmac.j1 k x0 t469 t472 t469 true) else (spec_Cmac.j1 k x0 t469 t472 t469 (((t472.length : Int) % 16) != 0)))))) else (none))
def spec_Cmac.j1 : Nat → List Int → List Int → List Int → List Int → Bool → Option (List Int)
  | 0, _, _, _, _, _ => none
  | k + 1, x0, x5, x6, x7, x34 => if x34 = true then ((spec_l2Double.f k x5).bind fun t475 => (if x6.length < 140737488355328 then (spec_Cmac.l0 k x0 (x6 ++ [128]) t475) else (none))) else (spec_Cmac.j3 k x0 x6 x7)
def spec_Cmac.j3 : Nat → List Int → List Int → List Int → Option (List Int)
  | 0, _, _, _ => none
  | k + 1, x0, x6, x7 => if 0 ≤ (wrap64 ((x6.length : Int) - 16)) then (if (wrap64 ((x6.length : Int) - 16)) ≤ (x6.length : Int) then ((spec_l1Bytes.f (x6.take ((wrap64 ((x6.length : Int) - 16)) : Int).toNat)).bind fun t488 => ((spec_l1Xor.f k (x6.drop ((wrap64 ((x6.length : Int) - 16)) : Int).toNat) x7).bind fun t495 => (if t488.length + t495.length < 140737488355328 then (if 16 ≤ 281474976710656 then (spec_Cmac.l1 k x0 (t488 ++ t495) (List.replicate 16 0) 0) else (none)) else (none)))) else (none)) else (none)
def spec_Cmac.l1 : Nat → List Int → List Int → List Int → Int → Option (List Int)
  | 0, _, _, _, _ => none
  | k + 1, x0, x6, x9, x10 => if x10 < (x6.length : Int) then (if 0 ≤ x10 then (if x10 ≤ (wrap64 (x10 + 16)) then (if (wrap64 (x10 + 16)) ≤ (x6.length : Int) then ((spec_l1Xor.f k x9 ((x6.take ((wrap64 (x10 + 16)) : Int).toNat).drop (x10 : Int).toNat)).bind fun t508 => ((spec_Aes.f k x0 t508 false).bind fun t511 => (spec_Cmac.l1 k x0 x6 t511 (wrap64 (x10 + 16))))) else (none)) else (none)) else (none)) else (some x9)
def spec_Cmac.l0 : Nat → List Int → List Int → List Int → Option (List Int)
  | 0, _, _, _ => none
  | k + 1, x0, x6, x7 => if ((x6.length : Int) % 16) = 0 then (spec_Cmac.j3 k x0 x6 x7) else (if x6.length < 140737488355328 then (spec_Cmac.l0 k x0 (x6 ++ [0]) x7) else (none))
end
def spec_Cmac.f (k : Nat) (l0 : List Int) (l1 : List Int) : Option (List Int) := if (l0.length : Int) = 16 then (spec_Cmac.j0 k l0 l1 (decide ((l1.length : Int) > 4096))) else (spec_Cmac.j0 k l0 l1 true)
def spec_Cmac.T12 : Bool × List (List Nat × List Nat) := (true, [([], []), ([], []), ([0, 1], [0, 1]), ([2], [2]), ([], []), ([], []), ([4, 5], [4, 5]), ([], []), ([6, 7, 3], [6, 7]), ([3, 8, 8], [3, 8]), ([9, 9, 0, 1, 2, 3, 4, 5, 6, 7, 8, 9], [0, 4, 9])])
def spec_Cmac.B12 : List Nat := [0, 0, 3, 7, 0, 0, 48, 0, 255, 511, 1023]
theorem spec_Cmac.tab12 : rtab .any (opsOf Try.f107 12) = spec_Cmac.T12 := by kernel_rfl
theorem spec_Cmac.bits12 : waitsOk spec_Cmac.T12.2 spec_Cmac.B12 = true := by kernel_rfl
set_option maxHeartbeats 8000000 in
set_option maxRecDepth 100000 in
theorem spec_Cmac.calls (k : Nat) (A0 : Option Addr) (c0 : Nat) (l0 : List Int) (A1 : Option Addr) (c1 : Nat) (l1 : List Int) (r : List Int) (w : World) (hr0 : Kd.C (Kd.int .u8) w A0 l0.length l0) (hc0 : l0.length ≤ c0) (hr1 : Kd.C (Kd.int .u8) w A1 l1.length l1) (hc1 : l1.length ≤ c1) (h : spec_Cmac.f k l0 l1 = some r) :
    Calls Try.prog 107 #[.slice A0 l0.length c0, .slice A1 l1.length c1] w fun e w' => ∃ v0_ : Value, e = .returned (v0_) ∧ Kd.R (Kd.int .u8) 5 w' w.heap.size (fun _ => True) v0_ r ∧ Below w.heap.size w w' := by
  have HR0 := Aside0.mk hr0
  have HC0 := Aside0.mk hc0
  clear hr0 hc0
  have HR1 := Aside0.mk hr1
  have HC1 := Aside0.mk hc1
  clear hr1 hc1
  have HB := Aside0.mk (Below.refl w.heap.size w)
  have H : (if (l0.length : Int) = 16 then (spec_Cmac.j0 k l0 l1 (decide ((l1.length : Int) > 4096))) else (spec_Cmac.j0 k l0 l1 true)) = some r := h
  clear h
  have HC3 := Aside0.mk H
  clear H
  go_enter Try.func107, Try.ntmps107
  go_upto_region 1 with (fail)
  go_cut [18] (fun v18 wc => ∃ (kq : Nat) (x18_2 : Bool), v18 = .bool x18_2 ∧ Aside0 (spec_Cmac.j0 kq l0 l1 x18_2 = some r) ∧ Aside0 (kq ≤ k) ∧ Aside0 (Below w.heap.size w wc))
  case first =>
    have H := HC3.out
    clear HC3
    by_cases c4 : (l0.length : Int) = 16
    · rw [if_pos c4] at H
      have c4b0 : ((l0.length : Int) == 16) = true := beq_iff_eq.mpr c4
      have c4b1 : ((l0.length : Int) != 16) = false := bne_eq_false_iff_eq.mpr c4
      clear c4
      (first | rw [c4b0] | (simp only [i64_w, i32_w]; rw [c4b0]) | skip)
      have H' := Aside0.mk H
      clear H
      go_wp2
      go_meet
      case rel => exact ⟨_, (decide ((l1.length : Int) > 4096)), (by first | rfl | (simp; done) | (simp [*]; done)), H', ⟨by first | omega | exact Nat.le_refl _⟩, ⟨by repeat (first | (with_reducible first | exact HB.out | apply below_alloc | apply pw_below_drewN | apply below_drew1) | exact HB.out)⟩⟩
    · rw [if_neg c4] at H
      have c4b0 : ((l0.length : Int) == 16) = false := beq_eq_false_iff_ne.mpr c4
      have c4b1 : ((l0.length : Int) != 16) = true := bne_iff_ne.mpr c4
      (first | rw [c4b0] | (simp only [i64_w, i32_w]; rw [c4b0]) | skip)
      have H' := Aside0.mk H
      clear H
      go_wp2
      go_meet
      case rel => exact ⟨_, (true), (by first | rfl | (simp; done) | (simp [*]; done)), H', ⟨by first | omega | exact Nat.le_refl _⟩, ⟨by repeat (first | (with_reducible first | exact HB.out | apply below_alloc | apply pw_below_drewN | apply below_drew1) | exact HB.out)⟩⟩
  case rest =>
    clear HC3
    try clear c1
    try clear p2
    try clear c4
    try clear c4b0
    try clear c4b1
    obtain ⟨kq, x18_2, rfl, HA, HJ2, HB⟩ := hcut
    cases kq with
    | zero => exact absurd HA.out (by simp [spec_Cmac.j0])
    | succ kj2 =>
      have H := HA.out
      clear HA
      simp only [spec_Cmac.j0] at H
      by_cases c5 : x18_2 = true
      · subst c5
        have H1 : (some ([] : List Int)) = some r := by rw [if_pos rfl] at H; exact H
        clear H
        have H := H1
        clear H1
        obtain rfl := Option.some.inj H
        go_wp2
        go_ret
        exact ⟨_, by first | rfl | (simp [errW_none, errW_some] <;> rfl) | (simp [*, errW_none, errW_some] <;> rfl), by first | exact Kd.R_nil _ _ _ _ _ | exact Kd.N_nil _ _ _ _ _ | exact Kd.V_nil _ _ _ _ _ | exact Kd.Q_nil _ _ _ _ _ | exact Kd.S_nil _ _ _ _ _, by repeat (first | (with_reducible first | exact HB.out | apply below_alloc | apply pw_below_drewN | apply below_drew1) | exact HB.out)⟩
      · replace c5 := Bool.eq_false_iff.mpr c5
        subst c5
        have H1 : (if 16 ≤ 281474976710656 then ((spec_Aes.f kj2 l0 (List.replicate 16 0) false).bind fun t466 => ((spec_l2Double.f kj2 t466).bind fun t469 => ((spec_l1Bytes.f l1).bind fun t472 => (if (t472.length : Int) = 0 then (spec_Cmac.j1 kj2 l0 t469 t472 t469 true) else (spec_Cmac.j1 kj2 l0 t469 t472 t469 (((t472.length : Int) % 16) != 0)))))) else (none)) = some r := by rw [if_neg (show ¬ (false = true) by decide)] at H; exact H
        clear H
        have H := H1
        clear H1
        by_cases c6 : 16 ≤ 281474976710656
        · rw [if_pos c6] at H
          have c6b0 := eq_true c6
          have c6b1 : decide (16 ≤ 281474976710656) = true := decide_eq_true c6
          clear c6
          obtain ⟨y463, hy463⟩ : ∃ y_ : List Int, y_ = (List.replicate 16 0) := ⟨_, rfl⟩
          replace H : ((spec_Aes.f kj2 l0 y463 false).bind fun t466 => ((spec_l2Double.f kj2 t466).bind fun t469 => ((spec_l1Bytes.f l1).bind fun t472 => (if (t472.length : Int) = 0 then (spec_Cmac.j1 kj2 l0 t469 t472 t469 true) else (spec_Cmac.j1 kj2 l0 t469 t472 t469 (((t472.length : Int) % 16) != 0)))))) = some r := by first | (rw [hy463]; with_reducible exact H) | (have H2_ := (Option.bind_some _ _).symm.trans H; rw [hy463]; with_reducible exact H2_) | (have H2_ := (Option.bind_some _ _).symm.trans H; with_reducible exact H2_) | with_reducible exact H | (rw [hy463]; exact H) | exact H
          have Ny463 := Aside0.mk hy463
          clear hy463
          replace H := Option.bind_eq_some_iff.mp H
          obtain ⟨t466, A70, H⟩ := H
          replace H : ((spec_l2Double.f kj2 t466).bind fun t469 => ((spec_l1Bytes.f l1).bind fun t472 => (if (t472.length : Int) = 0 then (spec_Cmac.j1 kj2 l0 t469 t472 t469 true) else (spec_Cmac.j1 kj2 l0 t469 t472 t469 (((t472.length : Int) % 16) != 0))))) = some r := H
          have A7 := Aside0.mk A70
          clear A70
          replace H := Option.bind_eq_some_iff.mp H
          obtain ⟨t469, A80, H⟩ := H
          replace H : ((spec_l1Bytes.f l1).bind fun t472 => (if (t472.length : Int) = 0 then (spec_Cmac.j1 kj2 l0 t469 t472 t469 true) else (spec_Cmac.j1 kj2 l0 t469 t472 t469 (((t472.length : Int) % 16) != 0)))) = some r := H
          have A8 := Aside0.mk A80
          clear A80
          replace H := Option.bind_eq_some_iff.mp H
          obtain ⟨t472, A90, H⟩ := H
          replace H : (if (t472.length : Int) = 0 then (spec_Cmac.j1 kj2 l0 t469 t472 t469 true) else (spec_Cmac.j1 kj2 l0 t469 t472 t469 (((t472.length : Int) % 16) != 0))) = some r := H
          have A9 := Aside0.mk A90
          clear A90
          have HC10 := Aside0.mk H
          clear H
          go_upto_region 6 with (first | ((with_reducible refine gate_dst (N := 20) rfl ?_); (try (refine gate_guard (by rfl) ?_; dsimp only)); refine Kd.R_make (Kd.int .u8) _ 5 rfl (N := 20) rfl 29 _ _ rfl 16 rfl rfl Try.underlying29 (.int .u8 0) 1 info5 rfl (by decide) (by omega) 0 (ok := fun _ => True) (okp := fun _ => True) rfl (fun _ hk => hk) trivial (by omega) (by omega) (Below.refl _ _) (Nat.le_refl _) ?_; intro v464 w11 ho12 hb hg_ hnew_; clear hg_ hnew_; (first | rw [← Ny463.out] at ho12 | (simp only [Int.reduceToNat] at ho12; rw [← Ny463.out] at ho12)); have n0_ := Aside0.mk (Kd.R_lower ho12 (below_size (by repeat (first | (with_reducible first | exact HB.out | apply below_alloc | apply pw_below_drewN | apply below_drew1) | exact HB.out)))); have n1_ := Aside0.mk (below_step (by repeat (first | (with_reducible first | exact HB.out | apply below_alloc | apply pw_below_drewN | apply below_drew1) | exact HB.out)) hb); clear HB; have HO465 := n0_; have HB := n1_; clear n0_ n1_; clear hb ho12; obtain ⟨Ao13, co13, eo13⟩ := Kd.R_slice HO465.out; subst eo13) | ((with_reducible refine gate_callee (f := 106) rfl ?_); refine goesL_ (some 21) rfl rfl Try.func106 (by kernel_rfl) rfl #[.slice A0 l0.length c0, .slice Ao13 y463.length co13, .bool false] rfl (by (try simp only [List.map_toArray, List.map_cons, List.map_nil]); first | done | rfl | (simp only [List.length_drop, List.length_take]; rfl)) ?_; (with_reducible refine (spec_Aes.calls kj2 _ _ l0 _ _ y463 false t466 _ ?side1 ?side2 ?side3 ?side4 A7.out).mono ?_); (case side1 => repeat (first | exact (Kd.C_below HR0.out HB.out) | (with_reducible refine Kd.C_alloc ?_ _) | (with_reducible refine Kd.C_drewN ?_ _) | (with_reducible refine Kd.C_drew ?_))); (case side2 => exact HC0.out); (case side3 => repeat (first | exact (Kd.R_reads' HO465.out).2.2 | (with_reducible refine Kd.C_alloc ?_ _) | (with_reducible refine Kd.C_drewN ?_ _) | (with_reducible refine Kd.C_drew ?_))); (case side4 => exact (Kd.R_reads' HO465.out).2.1); rintro e w14 ⟨v467, rfl, ho0, hb⟩; refine ⟨_, rfl, ?_⟩; have n0_ := Aside0.mk (Kd.R_elder' (by (with_reducible repeat (first | apply Kd.R_alloc | apply Kd.R_drewN | apply Kd.R_drew)); exact HO465.out) (Kd.R_base ho0) hb); have n1_ := Aside0.mk (Kd.R_lower (Kd.R_new' ho0 (Kd.R_lt (by (with_reducible repeat (first | apply Kd.R_alloc | apply Kd.R_drewN | apply Kd.R_drew)); exact HO465.out))) (below_size (by repeat (first | (with_reducible first | exact HB.out | apply below_alloc | apply pw_below_drewN | apply below_drew1) | exact HB.out)))); have n2_ := Aside0.mk (below_step (by repeat (first | (with_reducible first | exact HB.out | apply below_alloc | apply pw_below_drewN | apply below_drew1) | exact HB.out)) hb); clear HO465; clear HB; have HO465 := n0_; have HO468 := n1_; have HB := n2_; clear n0_ n1_ n2_; (try clear hb); (try clear hb2); (try clear hk); (try clear hi); (try clear ho0); obtain ⟨Ao15, co15, eo15⟩ := Kd.R_slice HO468.out; subst eo15) | ((with_reducible refine gate_callee (f := 117) rfl ?_); refine goesL_ (some 22) rfl rfl Try.func117 (by kernel_rfl) rfl #[.slice Ao15 t466.length co15] rfl (by (try simp only [List.map_toArray, List.map_cons, List.map_nil]); first | done | rfl | (simp only [List.length_drop, List.length_take]; rfl)) ?_; (with_reducible refine (spec_l2Double.calls kj2 _ _ t466 t469 _ ?side1 ?side2 A8.out).mono ?_); (case side1 => repeat (first | exact (Kd.R_reads' HO468.out).2.2 | (with_reducible refine Kd.C_alloc ?_ _) | (with_reducible refine Kd.C_drewN ?_ _) | (with_reducible refine Kd.C_drew ?_))); (case side2 => exact (Kd.R_reads' HO468.out).2.1); rintro e w16 ⟨v470, rfl, ho0, hb⟩; refine ⟨_, rfl, ?_⟩; have n0_ := Aside0.mk (Kd.R_elder' (by (with_reducible repeat (first | apply Kd.R_alloc | apply Kd.R_drewN | apply Kd.R_drew)); exact HO465.out) (Kd.R_base ho0) hb); have n1_ := Aside0.mk (Kd.R_elder' (by (with_reducible repeat (first | apply Kd.R_alloc | apply Kd.R_drewN | apply Kd.R_drew)); exact HO468.out) (Kd.R_base ho0) hb); have n2_ := Aside0.mk (Kd.R_lower (Kd.R_new' (Kd.R_new' ho0 (Kd.R_lt (by (with_reducible repeat (first | apply Kd.R_alloc | apply Kd.R_drewN | apply Kd.R_drew)); exact HO465.out))) (Kd.R_lt (by (with_reducible repeat (first | apply Kd.R_alloc | apply Kd.R_drewN | apply Kd.R_drew)); exact HO468.out))) (below_size (by repeat (first | (with_reducible first | exact HB.out | apply below_alloc | apply pw_below_drewN | apply below_drew1) | exact HB.out)))); have n3_ := Aside0.mk (below_step (by repeat (first | (with_reducible first | exact HB.out | apply below_alloc | apply pw_below_drewN | apply below_drew1) | exact HB.out)) hb); clear HO465; clear HO468; clear HB; have HO465 := n0_; have HO468 := n1_; have HO471 := n2_; have HB := n3_; clear n0_ n1_ n2_ n3_; (try clear hb); (try clear hb2); (try clear hk); (try clear hi); (try clear ho0)) | ((with_reducible refine gate_callee (f := 97) rfl ?_); refine goesL_ (some 24) rfl rfl Try.func97 (by kernel_rfl) rfl #[.slice A1 l1.length c1] rfl (by (try simp only [List.map_toArray, List.map_cons, List.map_nil]); first | done | rfl | (simp only [List.length_drop, List.length_take]; rfl)) ?_; (with_reducible refine (spec_l1Bytes.calls _ _ l1 t472 _ ?side1 ?side2 A9.out).mono ?_); (case side1 => repeat (first | exact (Kd.C_below HR1.out HB.out) | (with_reducible refine Kd.C_alloc ?_ _) | (with_reducible refine Kd.C_drewN ?_ _) | (with_reducible refine Kd.C_drew ?_))); (case side2 => exact HC1.out); rintro e w17 ⟨v473, rfl, ho0, hb⟩; refine ⟨_, rfl, ?_⟩; have n0_ := Aside0.mk (Kd.R_elder' (by (with_reducible repeat (first | apply Kd.R_alloc | apply Kd.R_drewN | apply Kd.R_drew)); exact HO465.out) (Kd.R_base ho0) hb); have n1_ := Aside0.mk (Kd.R_elder' (by (with_reducible repeat (first | apply Kd.R_alloc | apply Kd.R_drewN | apply Kd.R_drew)); exact HO468.out) (Kd.R_base ho0) hb); have n2_ := Aside0.mk (Kd.R_elder' (by (with_reducible repeat (first | apply Kd.R_alloc | apply Kd.R_drewN | apply Kd.R_drew)); exact HO471.out) (Kd.R_base ho0) hb); have n3_ := Aside0.mk (Kd.R_lower (Kd.R_new' (Kd.R_new' (Kd.R_new' ho0 (Kd.R_lt (by (with_reducible repeat (first | apply Kd.R_alloc | apply Kd.R_drewN | apply Kd.R_drew)); exact HO465.out))) (Kd.R_lt (by (with_reducible repeat (first | apply Kd.R_alloc | apply Kd.R_drewN | apply Kd.R_drew)); exact HO468.out))) (Kd.R_lt (by (with_reducible repeat (first | apply Kd.R_alloc | apply Kd.R_drewN | apply Kd.R_drew)); exact HO471.out))) (below_size (by repeat (first | (with_reducible first | exact HB.out | apply below_alloc | apply pw_below_drewN | apply below_drew1) | exact HB.out)))); have n4_ := Aside0.mk (below_step (by repeat (first | (with_reducible first | exact HB.out | apply below_alloc | apply pw_below_drewN | apply below_drew1) | exact HB.out)) hb); clear HO465; clear HO468; clear HO471; clear HB; have HO465 := n0_; have HO468 := n1_; have HO471 := n2_; have HO474 := n3_; have HB := n4_; clear n0_ n1_ n2_ n3_ n4_; (try clear hb); (try clear hb2); (try clear hk); (try clear hi); (try clear ho0)))
          (try simp only [Act.put, List.setIfInBounds_toArray, List.set_cons_zero, List.set_cons_succ])
          go_cut [34] (fun v34 wc => ∃ (kq : Nat) (x34_9 : Bool), v34 = .bool x34_9 ∧ Aside0 (spec_Cmac.j1 kq l0 t469 t472 t469 x34_9 = some r) ∧ Aside0 (kq ≤ kj2) ∧ Aside0 (Kd.R (Kd.int .u8) 5 wc w.heap.size (fun k_ => some k_ ≠ (v473 : Value).ownBlock) v470 t469) ∧ Aside0 (Kd.R (Kd.int .u8) 5 wc w.heap.size (fun k_ => some k_ ≠ (v470 : Value).ownBlock ∧ some k_ ≠ (v470 : Value).ownBlock) v473 t472) ∧ Aside0 (Kd.R (Kd.int .u8) 5 wc w.heap.size (fun k_ => some k_ ≠ (v473 : Value).ownBlock) v470 t469) ∧ Aside0 (Below w.heap.size w wc))
          case first =>
            have H := HC10.out
            clear HC10
            by_cases c18 : (t472.length : Int) = 0
            · rw [if_pos c18] at H
              have c18b0 : ((t472.length : Int) == 0) = true := beq_iff_eq.mpr c18
              have c18b1 : ((t472.length : Int) != 0) = false := bne_eq_false_iff_eq.mpr c18
              clear c18
              (first | rw [c18b0] | (simp only [i64_w, i32_w]; rw [c18b0]) | skip)
              have H' := Aside0.mk H
              clear H
              obtain ⟨Ao19, co19, eo19⟩ := Kd.R_slice HO474.out
              subst eo19
              go_wp2
              go_meet
              case rel => exact ⟨_, (true), (by first | rfl | (simp; done) | (simp [*]; done)), H', ⟨by have := HJ2.out; first | omega | exact Nat.le_refl _⟩, ⟨by (with_reducible repeat (first | apply Kd.R_alloc | apply Kd.R_drewN | apply Kd.R_drew)); exact Kd.R_mono HO471.out (fun _ hk => hk.2)⟩, ⟨by (with_reducible repeat (first | apply Kd.R_alloc | apply Kd.R_drewN | apply Kd.R_drew)); exact Kd.R_mono HO474.out (fun _ hk => ⟨hk.2, hk.2⟩)⟩, ⟨by (with_reducible repeat (first | apply Kd.R_alloc | apply Kd.R_drewN | apply Kd.R_drew)); exact Kd.R_mono HO471.out (fun _ hk => hk.2)⟩, ⟨by repeat (first | (with_reducible first | exact HB.out | apply below_alloc | apply pw_below_drewN | apply below_drew1) | exact HB.out)⟩⟩
            · rw [if_neg c18] at H
              have c18b0 : ((t472.length : Int) == 0) = false := beq_eq_false_iff_ne.mpr c18
              have c18b1 : ((t472.length : Int) != 0) = true := bne_iff_ne.mpr c18
              have c18b2 : ¬ (t472 = []) := fun h_ => c18 (by rw [h_]; rfl)
              (first | rw [c18b0] | (simp only [i64_w, i32_w]; rw [c18b0]) | skip)
              have H' := Aside0.mk H
              clear H
              obtain ⟨Ao20, co20, eo20⟩ := Kd.R_slice HO474.out
              subst eo20
              go_wp2
              go_meet
              case rel => exact ⟨_, ((((t472.length : Int) % 16) != 0)), (by first | rfl | (simp; done) | (simp [*]; done)), H', ⟨by have := HJ2.out; first | omega | exact Nat.le_refl _⟩, ⟨by (with_reducible repeat (first | apply Kd.R_alloc | apply Kd.R_drewN | apply Kd.R_drew)); exact Kd.R_mono HO471.out (fun _ hk => hk.2)⟩, ⟨by (with_reducible repeat (first | apply Kd.R_alloc | apply Kd.R_drewN | apply Kd.R_drew)); exact Kd.R_mono HO474.out (fun _ hk => ⟨hk.2, hk.2⟩)⟩, ⟨by (with_reducible repeat (first | apply Kd.R_alloc | apply Kd.R_drewN | apply Kd.R_drew)); exact Kd.R_mono HO471.out (fun _ hk => hk.2)⟩, ⟨by repeat (first | (with_reducible first | exact HB.out | apply below_alloc | apply pw_below_drewN | apply below_drew1) | exact HB.out)⟩⟩
          case rest =>
            clear HC10
            try clear c1
            try clear p2
            try clear c4
            try clear c4b0
            try clear c4b1
            try clear c5
            try clear c6
            try clear c6b0
            try clear c6b1
            try clear c9
            try clear c10
            try clear c11
            try clear c18
            try clear c18b0
            try clear c18b1
            try clear c18b2
            try clear p2
            obtain ⟨kq, x34_9, rfl, HA, HJ9, HO_5, HO_6, HO_7, HB⟩ := hcut
            cases kq with
            | zero => exact absurd HA.out (by simp [spec_Cmac.j1])
            | succ kj9 =>
              have H := HA.out
              clear HA
              simp only [spec_Cmac.j1] at H
              have HC21 := Aside0.mk H
              clear H
              go_upto_if 34 with (fail)
              go_cut [6, 7] (fun v6 v7 wc => ∃ (kq : Nat) (x6_20 : List Int) (x7_20 : List Int), Aside0 (spec_Cmac.j3 kq l0 x6_20 x7_20 = some r) ∧ Aside0 (kq ≤ kj9) ∧ Aside0 (Kd.R (Kd.int .u8) 5 wc w.heap.size (fun k_ => some k_ ≠ (v7 : Value).ownBlock) v6 x6_20) ∧ Aside0 (Kd.R (Kd.int .u8) 5 wc w.heap.size (fun k_ => some k_ ≠ (v6 : Value).ownBlock) v7 x7_20) ∧ Aside0 (Below w.heap.size w wc))
              case first =>
                have H := HC21.out
                clear HC21
                by_cases c22 : x34_9 = true
                · subst c22
                  have H1 : ((spec_l2Double.f kj9 t469).bind fun t475 => (if t472.length < 140737488355328 then (spec_Cmac.l0 kj9 l0 (t472 ++ [128]) t475) else (none))) = some r := by rw [if_pos rfl] at H; exact H
                  clear H
                  have H := H1
                  clear H1
                  replace H := Option.bind_eq_some_iff.mp H
                  obtain ⟨t475, A230, H⟩ := H
                  replace H : (if t472.length < 140737488355328 then (spec_Cmac.l0 kj9 l0 (t472 ++ [128]) t475) else (none)) = some r := H
                  have A23 := Aside0.mk A230
                  clear A230
                  by_cases c24 : t472.length < 140737488355328
                  · rw [if_pos c24] at H
                    have LMc24 := Aside0.mk c24
                    clear c24
                    obtain ⟨y478, hy478⟩ : ∃ y_ : List Int, y_ = (t472 ++ [128]) := ⟨_, rfl⟩
                    replace H : (spec_Cmac.l0 kj9 l0 y478 t475) = some r := by first | (rw [hy478]; with_reducible exact H) | (have H2_ := (Option.bind_some _ _).symm.trans H; rw [hy478]; with_reducible exact H2_) | (have H2_ := (Option.bind_some _ _).symm.trans H; with_reducible exact H2_) | with_reducible exact H | (rw [hy478]; exact H) | exact H
                    have Ny478 := Aside0.mk hy478
                    clear hy478
                    have H' := Aside0.mk H
                    clear H
                    obtain ⟨Ao25, co25, eo25⟩ := Kd.R_slice HO_5.out
                    subst eo25
                    go_wp2_with (first | ((with_reducible refine gate_callee (f := 117) rfl ?_); refine goesL_ (some 36) rfl rfl Try.func117 (by kernel_rfl) rfl #[.slice Ao25 t469.length co25] rfl (by (try simp only [List.map_toArray, List.map_cons, List.map_nil]); first | done | rfl | (simp only [List.length_drop, List.length_take]; rfl)) ?_; (with_reducible refine (spec_l2Double.calls kj9 _ _ t469 t475 _ ?side1 ?side2 A23.out).mono ?_); (case side1 => repeat (first | exact (Kd.R_reads' HO_5.out).2.2 | (with_reducible refine Kd.C_alloc ?_ _) | (with_reducible refine Kd.C_drewN ?_ _) | (with_reducible refine Kd.C_drew ?_))); (case side2 => exact (Kd.R_reads' HO_5.out).2.1); rintro e w26 ⟨v476, rfl, ho0, hb⟩; refine ⟨_, rfl, ?_⟩; have n0_ := Aside0.mk (Kd.R_elder' (by (with_reducible repeat (first | apply Kd.R_alloc | apply Kd.R_drewN | apply Kd.R_drew)); exact HO_5.out) (Kd.R_base ho0) hb); have n1_ := Aside0.mk (Kd.R_elder' (by (with_reducible repeat (first | apply Kd.R_alloc | apply Kd.R_drewN | apply Kd.R_drew)); exact HO_6.out) (Kd.R_base ho0) hb); have n2_ := Aside0.mk (Kd.R_elder' (by (with_reducible repeat (first | apply Kd.R_alloc | apply Kd.R_drewN | apply Kd.R_drew)); exact HO_7.out) (Kd.R_base ho0) hb); have n3_ := Aside0.mk (Kd.R_lower (Kd.R_new' (Kd.R_new' (Kd.R_new' ho0 (Kd.R_lt (by (with_reducible repeat (first | apply Kd.R_alloc | apply Kd.R_drewN | apply Kd.R_drew)); exact HO_5.out))) (Kd.R_lt (by (with_reducible repeat (first | apply Kd.R_alloc | apply Kd.R_drewN | apply Kd.R_drew)); exact HO_6.out))) (Kd.R_lt (by (with_reducible repeat (first | apply Kd.R_alloc | apply Kd.R_drewN | apply Kd.R_drew)); exact HO_7.out))) (below_size (by repeat (first | (with_reducible first | exact HB.out | apply below_alloc | apply pw_below_drewN | apply below_drew1) | exact HB.out)))); have n4_ := Aside0.mk (below_step (by repeat (first | (with_reducible first | exact HB.out | apply below_alloc | apply pw_below_drewN | apply below_drew1) | exact HB.out)) hb); clear HO_5; clear HO_6; clear HO_7; clear HB; have HO_5 := n0_; have HO_6 := n1_; have HO_7 := n2_; have HO477 := n3_; have HB := n4_; clear n0_ n1_ n2_ n3_ n4_; (try clear hb); (try clear hb2); (try clear hk); (try clear hi); (try clear ho0)) | ((with_reducible refine gate_builtin (b := .append) (xs := #[.tmp 37, .tmp 38]) rfl ?_); (try (refine gate_guard (by rfl) ?_; dsimp only)); at_builtin; refine Kd.R_append (Kd.int .u8) (w0 := w) w.heap.size rfl (.tmp 37) (.tmp 38) 29 5 (.int .u8 0) 1 rfl Try.underlying29 info5 rfl (by decide) (by omega) v473 t472 128 [.int .u8 128] (fun k_ => some k_ ≠ (.slice Ao25 t469.length co25 : Value).ownBlock ∧ some k_ ≠ (.slice Ao25 t469.length co25 : Value).ownBlock ∧ some k_ ≠ (v476 : Value).ownBlock) (fun _ => False) rfl rfl ?aP (fun _ hk => hk.elim) ?aF ?aO ?aB ?aS ?aL ?_; (case aP => exact rfl); (case aB => exact (by repeat (first | (with_reducible first | exact HB.out | apply below_alloc | apply pw_below_drewN | apply below_drew1) | exact HB.out))); (case aF => exact (fun k_ hk => ⟨Kd.fresh' (Kd.R_lt (by (with_reducible repeat (first | apply Kd.R_alloc | apply Kd.R_drewN | apply Kd.R_drew)); exact HO_5.out)) k_ hk, Kd.fresh' (Kd.R_lt (by (with_reducible repeat (first | apply Kd.R_alloc | apply Kd.R_drewN | apply Kd.R_drew)); exact HO_7.out)) k_ hk, Kd.fresh' (Kd.R_lt (by (with_reducible repeat (first | apply Kd.R_alloc | apply Kd.R_drewN | apply Kd.R_drew)); exact HO477.out)) k_ hk⟩)); (case aO => exact (by (with_reducible repeat (first | apply Kd.R_alloc | apply Kd.R_drewN | apply Kd.R_drew)); exact Kd.R_mono HO_6.out (fun _ hk => ⟨hk.1.1, ⟨hk.1.2, hk.2⟩⟩))); (case aS => exact (below_size (by repeat (first | (with_reducible first | exact HB.out | apply below_alloc | apply pw_below_drewN | apply below_drew1) | exact HB.out)))); (case aL => have := LMc24.out; omega); intro v479 w27 ho hb hg hat; rw [← Ny478.out] at ho; have n0_ := Aside0.mk (Kd.R_after (ok := (fun k_ => some k_ ≠ (v476 : Value).ownBlock)) (by (with_reducible repeat (first | apply Kd.R_alloc | apply Kd.R_drewN | apply Kd.R_drew)); exact Kd.R_mono HO_5.out (fun _ hk => ⟨hk.2, hk.1⟩)) hg hat); have n1_ := Aside0.mk (Kd.R_after (ok := (fun k_ => some k_ ≠ (v476 : Value).ownBlock)) (by (with_reducible repeat (first | apply Kd.R_alloc | apply Kd.R_drewN | apply Kd.R_drew)); exact Kd.R_mono HO_7.out (fun _ hk => ⟨hk.2, hk.1⟩)) hg hat); have n2_ := Aside0.mk (Kd.R_after (ok := (fun k_ => some k_ ≠ (.slice Ao25 t469.length co25 : Value).ownBlock ∧ some k_ ≠ (.slice Ao25 t469.length co25 : Value).ownBlock)) (by (with_reducible repeat (first | apply Kd.R_alloc | apply Kd.R_drewN | apply Kd.R_drew)); exact Kd.R_mono HO477.out (fun _ hk => ⟨⟨hk.1.1.2, hk.2⟩, hk.1.2⟩)) hg hat); have n3_ := Aside0.mk (hb); have n4_ := Aside0.mk (ho); clear HO_5; clear HO_7; clear HO477; clear HB; clear HO_6; have HO_5 := n0_; have HO_7 := n1_; have HO477 := n2_; have HB := n3_; have HO480 := n4_; clear n0_ n1_ n2_ n3_ n4_; clear ho hb hg hat))
                    go_loopg [6] kj9 (fun kq v6 w' => ∃ (x6_3 : List Int), Aside0 (spec_Cmac.l0 kq l0 x6_3 t475 = some r) ∧ Aside0 (kq ≤ kj9) ∧ Aside0 (Kd.R (Kd.int .u8) 5 w' w.heap.size (fun k_ => some k_ ≠ (v476 : Value).ownBlock) v6 x6_3) ∧ Aside0 (Kd.R (Kd.int .u8) 5 w' w.heap.size (fun k_ => some k_ ≠ (v6 : Value).ownBlock) v476 t475) ∧ Aside0 (Below w.heap.size w w'))
                    case atStart => exact ⟨(y478), H', ⟨Nat.le_refl _⟩, ⟨by (with_reducible repeat (first | apply Kd.R_alloc | apply Kd.R_drewN | apply Kd.R_drew)); exact Kd.R_mono HO480.out (fun _ hk => hk.2.2)⟩, ⟨by (with_reducible repeat (first | apply Kd.R_alloc | apply Kd.R_drewN | apply Kd.R_drew)); exact Kd.R_mono HO477.out (fun _ hk => hk.2)⟩, ⟨by repeat (first | (with_reducible first | exact HB.out | apply below_alloc | apply pw_below_drewN | apply below_drew1) | exact HB.out)⟩⟩
                    case round =>
                      clear H'
                      try clear c1
                      try clear c2
                      try clear p2
                      try clear c4
                      try clear c4b0
                      try clear c4b1
                      try clear c5
                      try clear c6
                      try clear c6b0
                      try clear c6b1
                      try clear c9
                      try clear c10
                      try clear c11
                      try clear c18
                      try clear c18b0
                      try clear c18b1
                      try clear c18b2
                      try clear c22
                      try clear c24
                      try clear p2
                      obtain ⟨x6_3, HA, HK3, HO_6, HO_7, HB⟩ := hrel
                      cases gk with
                      | zero => exact absurd HA.out (by simp [spec_Cmac.l0])
                      | succ k3 =>
                        have H := HA.out
                        clear HA
                        simp only [spec_Cmac.l0] at H
                        by_cases c28 : ((x6_3.length : Int) % 16) = 0
                        · rw [if_pos c28] at H
                          have c28b0 : (((x6_3.length : Int) % 16) == 0) = true := beq_iff_eq.mpr c28
                          have c28b1 : (((x6_3.length : Int) % 16) != 0) = false := bne_eq_false_iff_eq.mpr c28
                          clear c28
                          (first | rw [c28b0] | (simp only [i64_w, i32_w]; rw [c28b0]) | skip)
                          have H' := Aside0.mk H
                          clear H
                          obtain ⟨Ao29, co29, eo29⟩ := Kd.R_slice HO_6.out
                          subst eo29
                          go_wp2
                          go_meet
                          case rel => exact ⟨_, (x6_3), (t475), H', ⟨by have := HJ2.out; have := HJ9.out; have := HK3.out; first | omega | exact Nat.le_refl _⟩, ⟨by (with_reducible repeat (first | apply Kd.R_alloc | apply Kd.R_drewN | apply Kd.R_drew)); exact HO_6.out⟩, ⟨by (with_reducible repeat (first | apply Kd.R_alloc | apply Kd.R_drewN | apply Kd.R_drew)); exact HO_7.out⟩, ⟨by repeat (first | (with_reducible first | exact HB.out | apply below_alloc | apply pw_below_drewN | apply below_drew1) | exact HB.out)⟩⟩
                        · rw [if_neg c28] at H
                          have c28b0 : (((x6_3.length : Int) % 16) == 0) = false := beq_eq_false_iff_ne.mpr c28
                          have c28b1 : (((x6_3.length : Int) % 16) != 0) = true := bne_iff_ne.mpr c28
                          (first | rw [c28b0] | (simp only [i64_w, i32_w]; rw [c28b0]) | skip)
                          by_cases c30 : x6_3.length < 140737488355328
                          · rw [if_pos c30] at H
                            have LMc30 := Aside0.mk c30
                            clear c30
                            obtain ⟨y481, hy481⟩ : ∃ y_ : List Int, y_ = (x6_3 ++ [0]) := ⟨_, rfl⟩
                            replace H : (spec_Cmac.l0 k3 l0 y481 t475) = some r := by first | (rw [hy481]; with_reducible exact H) | (have H2_ := (Option.bind_some _ _).symm.trans H; rw [hy481]; with_reducible exact H2_) | (have H2_ := (Option.bind_some _ _).symm.trans H; with_reducible exact H2_) | with_reducible exact H | (rw [hy481]; exact H) | exact H
                            have Ny481 := Aside0.mk hy481
                            clear hy481
                            have H' := Aside0.mk H
                            clear H
                            obtain ⟨Ao31, co31, eo31⟩ := Kd.R_slice HO_6.out
                            subst eo31
                            go_wp2_with (first | ((with_reducible refine gate_builtin (b := .append) (xs := #[.tmp 44, .tmp 45]) rfl ?_); (try (refine gate_guard (by rfl) ?_; dsimp only)); at_builtin; refine Kd.R_append (Kd.int .u8) (w0 := w) w.heap.size rfl (.tmp 44) (.tmp 45) 29 5 (.int .u8 0) 1 rfl Try.underlying29 info5 rfl (by decide) (by omega) (.slice Ao31 x6_3.length co31) x6_3 0 [.int .u8 0] (fun k_ => some k_ ≠ (v476 : Value).ownBlock) (fun _ => False) rfl rfl ?aP (fun _ hk => hk.elim) ?aF ?aO ?aB ?aS ?aL ?_; (case aP => exact rfl); (case aB => exact (by repeat (first | (with_reducible first | exact HB.out | apply below_alloc | apply pw_below_drewN | apply below_drew1) | exact HB.out))); (case aF => exact (fun k_ hk => Kd.fresh' (Kd.R_lt (by (with_reducible repeat (first | apply Kd.R_alloc | apply Kd.R_drewN | apply Kd.R_drew)); exact HO_7.out)) k_ hk)); (case aO => exact (by (with_reducible repeat (first | apply Kd.R_alloc | apply Kd.R_drewN | apply Kd.R_drew)); exact HO_6.out)); (case aS => exact (below_size (by repeat (first | (with_reducible first | exact HB.out | apply below_alloc | apply pw_below_drewN | apply below_drew1) | exact HB.out)))); (case aL => have := LMc30.out; omega); intro v482 w32 ho hb hg hat; rw [← Ny481.out] at ho; have n0_ := Aside0.mk (Kd.R_after (ok := (fun _ => True)) (by (with_reducible repeat (first | apply Kd.R_alloc | apply Kd.R_drewN | apply Kd.R_drew)); exact Kd.R_mono HO_7.out (fun _ hk => ⟨trivial, hk⟩)) hg hat); have n1_ := Aside0.mk (hb); have n2_ := Aside0.mk (ho); clear HO_7; clear HB; clear HO_6; have HO_7 := n0_; have HB := n1_; have HO483 := n2_; clear n0_ n1_ n2_; clear ho hb hg hat))
                            go_roundg k3
                            case measure => have := HJ2.out; have := HJ9.out; have := HK3.out; omega
                            case rel => exact ⟨(y481), H', ⟨by have := HJ2.out; have := HJ9.out; have := HK3.out; omega⟩, ⟨by (with_reducible repeat (first | apply Kd.R_alloc | apply Kd.R_drewN | apply Kd.R_drew)); exact HO483.out⟩, ⟨by (with_reducible repeat (first | apply Kd.R_alloc | apply Kd.R_drewN | apply Kd.R_drew)); exact Kd.R_mono HO_7.out (fun _ hk => hk.2)⟩, ⟨by repeat (first | (with_reducible first | exact HB.out | apply below_alloc | apply pw_below_drewN | apply below_drew1) | exact HB.out)⟩⟩
                          · rw [if_neg c30] at H
                            exact absurd H (by simp)
                  · rw [if_neg c24] at H
                    exact absurd H (by simp)
                · replace c22 := Bool.eq_false_iff.mpr c22
                  subst c22
                  have H1 : (spec_Cmac.j3 kj9 l0 t472 t469) = some r := by rw [if_neg (show ¬ (false = true) by decide)] at H; exact H
                  clear H
                  have H := H1
                  clear H1
                  have H' := Aside0.mk H
                  clear H
                  go_wp2
                  go_meet
                  case rel => exact ⟨_, (t472), (t469), H', ⟨by have := HJ2.out; have := HJ9.out; first | omega | exact Nat.le_refl _⟩, ⟨by (with_reducible repeat (first | apply Kd.R_alloc | apply Kd.R_drewN | apply Kd.R_drew)); exact Kd.R_mono HO_6.out (fun _ hk => hk.2)⟩, ⟨by (with_reducible repeat (first | apply Kd.R_alloc | apply Kd.R_drewN | apply Kd.R_drew)); exact HO_7.out⟩, ⟨by repeat (first | (with_reducible first | exact HB.out | apply below_alloc | apply pw_below_drewN | apply below_drew1) | exact HB.out)⟩⟩
              case rest =>
                clear HC21
                try clear c1
                try clear c2
                try clear p2
                try clear c3
                try clear c4
                try clear c4b0
                try clear c4b1
                try clear c5
                try clear c6
                try clear c6b0
                try clear c6b1
                try clear c9
                try clear c10
                try clear c11
                try clear c18
                try clear c18b0
                try clear c18b1
                try clear c18b2
                try clear c22
                try clear c24
                try clear c28
                try clear c28b0
                try clear c28b1
                try clear c30
                try clear p2
                obtain ⟨kq, x6_20, x7_20, HA, HJ20, HO_6, HO_7, HB⟩ := hcut
                cases kq with
                | zero => exact absurd HA.out (by simp [spec_Cmac.j3])
                | succ kj20 =>
                  have H := HA.out
                  clear HA
                  simp only [spec_Cmac.j3] at H
                  obtain ⟨ji33, hji33⟩ : ∃ j_ : Int, (wrap64 ((x6_20.length : Int) - 16)) = j_ := ⟨_, rfl⟩
                  replace H : (if 0 ≤ (ji33) then (if (ji33) ≤ (x6_20.length : Int) then ((spec_l1Bytes.f (x6_20.take ((ji33) : Int).toNat)).bind fun t488 => ((spec_l1Xor.f kj20 (x6_20.drop ((ji33) : Int).toNat) x7_20).bind fun t495 => (if t488.length + t495.length < 140737488355328 then (if 16 ≤ 281474976710656 then (spec_Cmac.l1 kj20 l0 (t488 ++ t495) (List.replicate 16 0) 0) else (none)) else (none)))) else (none)) else (none)) = some r := by first | (rw [hji33] at H; exact H) | (simp only [hji33] at H ⊢; exact H)
                  have hji33w : (IntKind.i64.wrap ((x6_20.length : Int) - 16)) = ji33 := (i64_w _).trans hji33
                  by_cases c34 : 0 ≤ (ji33)
                  · rw [if_pos c34] at H
                    have c34b0 := eq_true c34
                    have c34b1 : decide (0 ≤ (ji33)) = true := decide_eq_true c34
                    clear c34
                    by_cases c35 : (ji33) ≤ (x6_20.length : Int)
                    · rw [if_pos c35] at H
                      have c35b0 := eq_true c35
                      have c35b1 : decide ((ji33) ≤ (x6_20.length : Int)) = true := decide_eq_true c35
                      clear c35
                      obtain ⟨y484, hy484⟩ : ∃ y_ : List Int, y_ = (x6_20.take ((ji33) : Int).toNat) := ⟨_, rfl⟩
                      replace H : ((spec_l1Bytes.f y484).bind fun t488 => ((spec_l1Xor.f kj20 (x6_20.drop ((ji33) : Int).toNat) x7_20).bind fun t495 => (if t488.length + t495.length < 140737488355328 then (if 16 ≤ 281474976710656 then (spec_Cmac.l1 kj20 l0 (t488 ++ t495) (List.replicate 16 0) 0) else (none)) else (none)))) = some r := by first | (rw [hy484]; with_reducible exact H) | (have H2_ := (Option.bind_some _ _).symm.trans H; rw [hy484]; with_reducible exact H2_) | (have H2_ := (Option.bind_some _ _).symm.trans H; with_reducible exact H2_) | with_reducible exact H | (rw [hy484]; exact H) | exact H
                      have Ny484 := Aside0.mk hy484
                      clear hy484
                      replace H := Option.bind_eq_some_iff.mp H
                      obtain ⟨t488, A360, H⟩ := H
                      replace H : ((spec_l1Xor.f kj20 (x6_20.drop ((ji33) : Int).toNat) x7_20).bind fun t495 => (if t488.length + t495.length < 140737488355328 then (if 16 ≤ 281474976710656 then (spec_Cmac.l1 kj20 l0 (t488 ++ t495) (List.replicate 16 0) 0) else (none)) else (none))) = some r := H
                      have A36 := Aside0.mk A360
                      clear A360
                      have c37b0 := eq_true (of_decide_eq_true (by first | (with_reducible assumption) | assumption) : 0 ≤ (ji33))
                      have c38b0 := eq_true (of_decide_eq_true (by first | (with_reducible assumption) | assumption) : (ji33) ≤ (x6_20.length : Int))
                      obtain ⟨y491, hy491⟩ : ∃ y_ : List Int, y_ = (x6_20.drop ((ji33) : Int).toNat) := ⟨_, rfl⟩
                      replace H : ((spec_l1Xor.f kj20 y491 x7_20).bind fun t495 => (if t488.length + t495.length < 140737488355328 then (if 16 ≤ 281474976710656 then (spec_Cmac.l1 kj20 l0 (t488 ++ t495) (List.replicate 16 0) 0) else (none)) else (none))) = some r := by first | (rw [hy491]; with_reducible exact H) | (have H2_ := (Option.bind_some _ _).symm.trans H; rw [hy491]; with_reducible exact H2_) | (have H2_ := (Option.bind_some _ _).symm.trans H; with_reducible exact H2_) | with_reducible exact H | (rw [hy491]; exact H) | exact H
                      have Ny491 := Aside0.mk hy491
                      clear hy491
                      replace H := Option.bind_eq_some_iff.mp H
                      obtain ⟨t495, A390, H⟩ := H
                      replace H : (if t488.length + t495.length < 140737488355328 then (if 16 ≤ 281474976710656 then (spec_Cmac.l1 kj20 l0 (t488 ++ t495) (List.replicate 16 0) 0) else (none)) else (none)) = some r := H
                      have A39 := Aside0.mk A390
                      clear A390
                      by_cases c40 : t488.length + t495.length < 140737488355328
                      · rw [if_pos c40] at H
                        have LMc40 := Aside0.mk c40
                        clear c40
                        obtain ⟨y498, hy498⟩ : ∃ y_ : List Int, y_ = (t488 ++ t495) := ⟨_, rfl⟩
                        replace H : (if 16 ≤ 281474976710656 then (spec_Cmac.l1 kj20 l0 y498 (List.replicate 16 0) 0) else (none)) = some r := by first | (rw [hy498]; with_reducible exact H) | (have H2_ := (Option.bind_some _ _).symm.trans H; rw [hy498]; with_reducible exact H2_) | (have H2_ := (Option.bind_some _ _).symm.trans H; with_reducible exact H2_) | with_reducible exact H | (rw [hy498]; exact H) | exact H
                        have Ny498 := Aside0.mk hy498
                        clear hy498
                        by_cases c41 : 16 ≤ 281474976710656
                        · rw [if_pos c41] at H
                          have c41b0 := eq_true c41
                          have c41b1 : decide (16 ≤ 281474976710656) = true := decide_eq_true c41
                          clear c41
                          obtain ⟨y501, hy501⟩ : ∃ y_ : List Int, y_ = (List.replicate 16 0) := ⟨_, rfl⟩
                          replace H : (spec_Cmac.l1 kj20 l0 y498 y501 0) = some r := by first | (rw [hy501]; with_reducible exact H) | (have H2_ := (Option.bind_some _ _).symm.trans H; rw [hy501]; with_reducible exact H2_) | (have H2_ := (Option.bind_some _ _).symm.trans H; with_reducible exact H2_) | with_reducible exact H | (rw [hy501]; exact H) | exact H
                          have Ny501 := Aside0.mk hy501
                          clear hy501
                          have H' := Aside0.mk H
                          clear H
                          obtain ⟨Ao42, co42, eo42⟩ := Kd.R_slice HO_6.out
                          subst eo42
                          try go_wp2
                          have n0_ := Aside0.mk (Kd.R_drew HO_6.out)
                          have n1_ := Aside0.mk (Kd.R_drew HO_7.out)
                          have n2_ := Aside0.mk (below_drew1 HB.out)
                          clear HO_6
                          clear HO_7
                          clear HB
                          have HO_6 := n0_
                          have HO_7 := n1_
                          have HB := n2_
                          clear n0_ n1_ n2_
                          have q44 : ((ji33) : Int) ≤ ((x6_20.length : Int) : Int) := of_decide_eq_true (by first | (with_reducible assumption) | assumption)
                          obtain ⟨i044, hi044, _, hsz44, _⟩ := info_parts info5
                          have hroom44 : x6_20.length ≤ co42 := (Kd.R_reads' HO_6.out).2.1
                          have hC44 : Kd.C (Kd.int .u8) _ Ao42 x6_20.length x6_20 := (Kd.R_reads' HO_6.out).2.2
                          have hcut44 := cut_to (P := Try.prog) 29 5 .i64 Try.underlying29 hi044 Ao42 x6_20.length co42 (ji33) (of_decide_eq_true (by first | (with_reducible assumption) | assumption)) q44 hroom44
                          have hr44 := Kd.C_take (m := ((ji33) : Int).toNat) hC44 (by omega)
                          have hy44 : y484.length = ((ji33) : Int).toNat := (by rw [Ny484.out, List.length_take]; omega)
                          rw [← Ny484.out] at hr44
                          rw [← hy44] at hcut44
                          have HR487 := Aside0.mk hr44
                          have HC487 := Aside0.mk (show y484.length ≤ co42 from by omega)
                          clear hr44 hC44 hroom44 hi044 hsz44
                          have KY44 := Aside0.mk hy44
                          clear hy44
                          have KL44 := Aside0.mk (show ((ji33) : Int).toNat ≤ x6_20.length from by omega)
                          replace q44 := eq_true q44
                          have q45 : ((ji33) : Int) ≤ ((x6_20.length : Int) : Int) := of_decide_eq_true (by first | (with_reducible assumption) | assumption)
                          obtain ⟨i045, hi045, _, hsz45, _⟩ := info_parts info5
                          have hroom45 : x6_20.length ≤ co42 := (Kd.R_reads' HO_6.out).2.1
                          have hC45 : Kd.C (Kd.int .u8) _ Ao42 x6_20.length x6_20 := (Kd.R_reads' HO_6.out).2.2
                          have q045 : (0 : Int) ≤ ((ji33) : Int) := of_decide_eq_true (by first | (with_reducible assumption) | assumption)
                          have hcut45 := cut_from (P := Try.prog) 29 5 .i64 Try.underlying29 hi045 1 hsz45 Ao42 x6_20.length co42 (ji33) q045 q45
                          have hr45 := Kd.C_drop (m := ((ji33) : Int).toNat) (c := co42) hC45 (by omega) hroom45
                          obtain ⟨A45, hA45⟩ : ∃ A1, A1 = (if co42 = ((ji33) : Int).toNat then Ao42 else (Ao42 : Option Addr).map (·.add (((ji33) : Int).toNat * 1))) := ⟨_, rfl⟩
                          obtain ⟨c45, hc45⟩ : ∃ c1, c1 = co42 - ((ji33) : Int).toNat := ⟨_, rfl⟩
                          have hy45 : y491.length = x6_20.length - ((ji33) : Int).toNat := (by rw [Ny491.out, List.length_drop] <;> omega)
                          rw [show (x6_20).drop ((ji33) : Int).toNat = y491 from Ny491.out.symm] at hr45
                          replace hr45 : Kd.C (Kd.int .u8) _ A45 y491.length y491 := (by rw [hA45]; exact hr45)
                          rw [← hy45, ← hA45, ← hc45] at hcut45
                          have HR494 := Aside0.mk hr45
                          have HC494 := Aside0.mk (show y491.length ≤ c45 from by rw [hy45, hc45]; exact Nat.sub_le_sub_right hroom45 _)
                          clear hr45 hC45 hroom45 hi045 hsz45 hc45
                          have KY45 := Aside0.mk hy45
                          have KA45 := Aside0.mk hA45
                          clear hy45 hA45
                          have KL45 := Aside0.mk (show ((ji33) : Int).toNat ≤ x6_20.length from by omega)
                          replace q45 := eq_true q45
                          refine start_ (n := 11) (S := fun w' => True) (ds := []) #[false, false, false, false, false, false, false, false, false, false, false] (by kernel_rfl) rfl rfl trivial (fun hHeld => ?_); refine with_tabW spec_Cmac.tab12 spec_Cmac.bits12 (fun HT_ HW_ => ?_)
                          generalize wc.drew = w43 at HO_6 HO_7 HB HR487 HR494 hHeld ⊢
                          refine pure_ (i := 0) (N := some 50) (v := ?_) (a' := ?_) #[true, false, false, false, false, false, false, false, false, false, false] rfl rfl (any_of HT_.out (by kernel_rfl)) (fun _ _ _ h => h) (Or.inl ⟨by rfl, ?_⟩) ?_ ?_
                          rotate_left
                          · intro w'
                            go_simp
                            with_reducible rfl
                          rotate_left
                          · simp only [Act.put, List.setIfInBounds_toArray, List.set_cons_zero, List.set_cons_succ, i64_w, i32_w]
                            rfl
                          refine pure_ (i := 1) (N := some 51) (v := ?_) (a' := ?_) #[true, true, false, false, false, false, false, false, false, false, false] rfl rfl (any_of HT_.out (by kernel_rfl)) (fun _ _ _ h => h) (Or.inl ⟨by rfl, ?_⟩) ?_ ?_
                          rotate_left
                          · intro w'
                            go_simp
                            with_reducible rfl
                          rotate_left
                          · simp only [Act.put, List.setIfInBounds_toArray, List.set_cons_zero, List.set_cons_succ, i64_w, i32_w]
                            rfl
                          refine pure_ (i := 2) (N := some 52) (v := ?_) (a' := ?_) #[true, true, true, false, false, false, false, false, false, false, false] rfl rfl (any_of HT_.out (by kernel_rfl)) (fun _ _ _ h => h) (Or.inl ⟨by rfl, ?_⟩) ?_ ?_
                          rotate_left
                          · intro w'
                            go_simp
                            with_reducible rfl
                          rotate_left
                          · simp only [Act.put, List.setIfInBounds_toArray, List.set_cons_zero, List.set_cons_succ, i64_w, i32_w]
                            rfl
                          refine pure_ (i := 4) (N := some 54) (v := ?_) (a' := ?_) #[true, true, true, false, true, false, false, false, false, false, false] rfl rfl (any_of HT_.out (by kernel_rfl)) (fun _ _ _ h => h) (Or.inl ⟨by rfl, ?_⟩) ?_ ?_
                          rotate_left
                          · intro w'
                            go_simp
                            with_reducible rfl
                          rotate_left
                          · simp only [Act.put, List.setIfInBounds_toArray, List.set_cons_zero, List.set_cons_succ, i64_w, i32_w]
                            rfl
                          refine pure_ (i := 5) (N := some 55) (v := ?_) (a' := ?_) #[true, true, true, false, true, true, false, false, false, false, false] rfl rfl (any_of HT_.out (by kernel_rfl)) (fun _ _ _ h => h) (Or.inl ⟨by rfl, ?_⟩) ?_ ?_
                          rotate_left
                          · intro w'
                            go_simp
                            with_reducible rfl
                          rotate_left
                          · simp only [Act.put, List.setIfInBounds_toArray, List.set_cons_zero, List.set_cons_succ, i64_w, i32_w]
                            rfl
                          refine pure_ (i := 6) (N := some 56) (v := ?_) (a' := ?_) #[true, true, true, false, true, true, true, false, false, false, false] rfl rfl (any_of HT_.out (by kernel_rfl)) (fun _ _ _ h => h) (Or.inl ⟨by rfl, ?_⟩) ?_ ?_
                          rotate_left
                          · intro w'
                            go_simp
                            with_reducible rfl
                          rotate_left
                          · simp only [Act.put, List.setIfInBounds_toArray, List.set_cons_zero, List.set_cons_succ, i64_w, i32_w]
                            rfl
                          refine pure_ (i := 7) (N := some 57) (v := ?_) (a' := ?_) #[true, true, true, false, true, true, true, true, false, false, false] rfl rfl (any_of HT_.out (by kernel_rfl)) (fun _ _ _ h => h) (Or.inl ⟨by rfl, ?_⟩) ?_ ?_
                          rotate_left
                          · intro w'
                            go_simp
                            with_reducible rfl
                          rotate_left
                          · simp only [Act.put, List.setIfInBounds_toArray, List.set_cons_zero, List.set_cons_succ, i64_w, i32_w]
                            rfl
                          refine one_ (i := 3) (N := some 53) #[true, true, true, true, true, true, true, true, false, false, false] rfl rfl (one_of HT_.out (by kernel_rfl)) (by decide) (fun K hK => ?_)
                          refine goes_ Try.func97 (by kernel_rfl) rfl #[.slice Ao42 y484.length co42] (by rfl) rfl rfl (by (try simp only [List.map_toArray, List.map_cons, List.map_nil]); first | done | rfl | (simp only [List.length_drop, List.length_take]; rfl)) ?_
                          with_reducible refine (spec_l1Bytes.calls _ _ y484 t488 _ ?side1 ?side2 A36.out).mono ?_
                          (case side1 => repeat (first | exact (by repeat (first | (with_reducible exact HR487.out) | (with_reducible refine Kd.C_alloc ?_ _) | (with_reducible refine Kd.C_drewN ?_ _) | (with_reducible refine Kd.C_drew ?_) | exact HR487.out)) | (with_reducible refine Kd.C_alloc ?_ _) | (with_reducible refine Kd.C_drewN ?_ _) | (with_reducible refine Kd.C_drew ?_)))
                          (case side2 => exact HC487.out)
                          rintro e w46 ⟨v489, rfl, ho0, hb⟩
                          refine ⟨_, rfl, ?_⟩
                          have n0_ := Aside0.mk (Kd.R_elder' (by (with_reducible repeat (first | apply Kd.R_alloc | apply Kd.R_drewN | apply Kd.R_drew)); exact HO_6.out) (Kd.R_base ho0) hb)
                          have n1_ := Aside0.mk (Kd.R_elder' (by (with_reducible repeat (first | apply Kd.R_alloc | apply Kd.R_drewN | apply Kd.R_drew)); exact HO_7.out) (Kd.R_base ho0) hb)
                          have n2_ := Aside0.mk (Kd.R_lower (Kd.R_new' (Kd.R_new' ho0 (Kd.R_lt (by (with_reducible repeat (first | apply Kd.R_alloc | apply Kd.R_drewN | apply Kd.R_drew)); exact HO_6.out))) (Kd.R_lt (by (with_reducible repeat (first | apply Kd.R_alloc | apply Kd.R_drewN | apply Kd.R_drew)); exact HO_7.out))) (below_size (by repeat (first | (with_reducible first | exact HB.out | apply below_alloc | apply pw_below_drewN | apply below_drew1) | exact HB.out))))
                          have n3_ := Aside0.mk (Kd.C_below (by repeat (first | (with_reducible exact HR487.out) | (with_reducible refine Kd.C_alloc ?_ _) | (with_reducible refine Kd.C_drewN ?_ _) | (with_reducible refine Kd.C_drew ?_) | exact HR487.out)) hb)
                          have n4_ := Aside0.mk (Kd.C_below (by repeat (first | (with_reducible exact HR494.out) | (with_reducible refine Kd.C_alloc ?_ _) | (with_reducible refine Kd.C_drewN ?_ _) | (with_reducible refine Kd.C_drew ?_) | exact HR494.out)) hb)
                          have n5_ := Aside0.mk (below_step (by repeat (first | (with_reducible first | exact HB.out | apply below_alloc | apply pw_below_drewN | apply below_drew1) | exact HB.out)) hb)
                          clear HO_6
                          clear HO_7
                          clear HR487
                          clear HR494
                          clear HB
                          have HO_6 := n0_
                          have HO_7 := n1_
                          have HO490 := n2_
                          have HR487 := n3_
                          have HR494 := n4_
                          have HB := n5_
                          clear n0_ n1_ n2_ n3_ n4_ n5_
                          (try clear hb)
                          (try clear hb2)
                          (try clear hk)
                          (try clear hi)
                          (try clear ho0)
                          obtain ⟨Ao47, co47, eo47⟩ := Kd.R_slice HO_7.out
                          (first | subst eo47 | (injection eo47 with f1_ f2_ f3_; have f4_ := f1_.symm; have f5_ := f3_.symm; clear f1_ f2_ f3_; subst f4_; subst f5_))
                          refine hK.out _ _ trivial (fun hHeld => ?_)
                          clear hK K
                          refine norm_ (a' := ?_) ?_ ?_
                          rotate_left
                          · show Act.put _ (some 53) _ = _
                            simp only [Act.put, List.setIfInBounds_toArray, List.set_cons_zero, List.set_cons_succ, i64_w, i32_w]
                            rfl
                          refine one_ (i := 8) (N := some 58) #[true, true, true, true, true, true, true, true, true, false, false] rfl rfl (one_of HT_.out (by kernel_rfl)) (by decide) (fun K hK => ?_)
                          refine goes_ Try.func45 (by kernel_rfl) rfl #[.slice A45 y491.length c45, .slice Ao47 x7_20.length co47] (by rfl) rfl rfl (by (try simp only [List.map_toArray, List.map_cons, List.map_nil]); first | done | rfl | (simp only [List.length_drop, List.length_take]; rfl)) ?_
                          with_reducible refine (spec_l1Xor.calls kj20 _ _ y491 _ _ x7_20 t495 _ ?side1 ?side2 ?side3 ?side4 A39.out).mono ?_
                          (case side1 => repeat (first | exact (by repeat (first | (with_reducible exact HR494.out) | (with_reducible refine Kd.C_alloc ?_ _) | (with_reducible refine Kd.C_drewN ?_ _) | (with_reducible refine Kd.C_drew ?_) | exact HR494.out)) | (with_reducible refine Kd.C_alloc ?_ _) | (with_reducible refine Kd.C_drewN ?_ _) | (with_reducible refine Kd.C_drew ?_)))
                          (case side2 => exact HC494.out)
                          (case side3 => repeat (first | exact (Kd.R_reads' HO_7.out).2.2 | (with_reducible refine Kd.C_alloc ?_ _) | (with_reducible refine Kd.C_drewN ?_ _) | (with_reducible refine Kd.C_drew ?_)))
                          (case side4 => exact (Kd.R_reads' HO_7.out).2.1)
                          rintro e w48 ⟨v496, rfl, ho0, hb⟩
                          refine ⟨_, rfl, ?_⟩
                          have n0_ := Aside0.mk (Kd.R_elder' (by (with_reducible repeat (first | apply Kd.R_alloc | apply Kd.R_drewN | apply Kd.R_drew)); exact HO_6.out) (Kd.R_base ho0) hb)
                          have n1_ := Aside0.mk (Kd.R_elder' (by (with_reducible repeat (first | apply Kd.R_alloc | apply Kd.R_drewN | apply Kd.R_drew)); exact HO_7.out) (Kd.R_base ho0) hb)
                          have n2_ := Aside0.mk (Kd.R_elder' (by (with_reducible repeat (first | apply Kd.R_alloc | apply Kd.R_drewN | apply Kd.R_drew)); exact HO490.out) (Kd.R_base ho0) hb)
                          have n3_ := Aside0.mk (Kd.R_lower (Kd.R_new' (Kd.R_new' (Kd.R_new' ho0 (Kd.R_lt (by (with_reducible repeat (first | apply Kd.R_alloc | apply Kd.R_drewN | apply Kd.R_drew)); exact HO_6.out))) (Kd.R_lt (by (with_reducible repeat (first | apply Kd.R_alloc | apply Kd.R_drewN | apply Kd.R_drew)); exact HO_7.out))) (Kd.R_lt (by (with_reducible repeat (first | apply Kd.R_alloc | apply Kd.R_drewN | apply Kd.R_drew)); exact HO490.out))) (below_size (by repeat (first | (with_reducible first | exact HB.out | apply below_alloc | apply pw_below_drewN | apply below_drew1) | exact HB.out))))
                          have n4_ := Aside0.mk (Kd.C_below (by repeat (first | (with_reducible exact HR487.out) | (with_reducible refine Kd.C_alloc ?_ _) | (with_reducible refine Kd.C_drewN ?_ _) | (with_reducible refine Kd.C_drew ?_) | exact HR487.out)) hb)
                          have n5_ := Aside0.mk (Kd.C_below (by repeat (first | (with_reducible exact HR494.out) | (with_reducible refine Kd.C_alloc ?_ _) | (with_reducible refine Kd.C_drewN ?_ _) | (with_reducible refine Kd.C_drew ?_) | exact HR494.out)) hb)
                          have n6_ := Aside0.mk (below_step (by repeat (first | (with_reducible first | exact HB.out | apply below_alloc | apply pw_below_drewN | apply below_drew1) | exact HB.out)) hb)
                          clear HO_6
                          clear HO_7
                          clear HO490
                          clear HR487
                          clear HR494
                          clear HB
                          have HO_6 := n0_
                          have HO_7 := n1_
                          have HO490 := n2_
                          have HO497 := n3_
                          have HR487 := n4_
                          have HR494 := n5_
                          have HB := n6_
                          clear n0_ n1_ n2_ n3_ n4_ n5_ n6_
                          (try clear hb)
                          (try clear hb2)
                          (try clear hk)
                          (try clear hi)
                          (try clear ho0)
                          obtain ⟨Ao50, co50, eo50⟩ := Kd.R_slice HO497.out
                          (first | subst eo50 | (injection eo50 with f1_ f2_ f3_; have f4_ := f1_.symm; have f5_ := f3_.symm; clear f1_ f2_ f3_; subst f4_; subst f5_))
                          refine hK.out _ _ trivial (fun hHeld => ?_)
                          clear hK K
                          refine norm_ (a' := ?_) ?_ ?_
                          rotate_left
                          · show Act.put _ (some 58) _ = _
                            simp only [Act.put, List.setIfInBounds_toArray, List.set_cons_zero, List.set_cons_succ, i64_w, i32_w]
                            rfl
                          refine one_ (i := 9) (N := some 59) #[true, true, true, true, true, true, true, true, true, true, false] rfl rfl (one_of HT_.out (by kernel_rfl)) (by decide) (fun K hK => ?_)
                          refine Kd.R_append_rows_step (Kd.int .u8) (w0 := w) w.heap.size (by rfl) (.tmp 53) (.tmp 58) 29 5 (.int .u8 0) 1 rfl Try.underlying29 info5 rfl (by decide) (by omega) v489 t488 t495 _ _ _ (fun k_ => some k_ ≠ (.slice Ao42 x6_20.length co42 : Value).ownBlock ∧ some k_ ≠ (.slice Ao47 x7_20.length co47 : Value).ownBlock ∧ some k_ ≠ (.slice Ao50 t495.length co50 : Value).ownBlock) (fun _ => False) rfl rfl ?aO ?aR (fun _ _ h => h) (fun _ h => h.elim) ?aF ?aB ?aS ?aL ?_
                          (case aR => repeat (first | exact (Kd.R_reads' HO497.out).2.2 | (with_reducible refine Kd.C_alloc ?_ _) | (with_reducible refine Kd.C_drewN ?_ _) | (with_reducible refine Kd.C_drew ?_)))
                          (case aB => exact (by repeat (first | (with_reducible first | exact HB.out | apply below_alloc | apply pw_below_drewN | apply below_drew1) | exact HB.out)))
                          (case aF => exact (fun k_ hk => ⟨Kd.fresh' (Kd.R_lt (by (with_reducible repeat (first | apply Kd.R_alloc | apply Kd.R_drewN | apply Kd.R_drew)); exact HO_6.out)) k_ hk, Kd.fresh' (Kd.R_lt (by (with_reducible repeat (first | apply Kd.R_alloc | apply Kd.R_drewN | apply Kd.R_drew)); exact HO_7.out)) k_ hk, Kd.fresh' (Kd.R_lt (by (with_reducible repeat (first | apply Kd.R_alloc | apply Kd.R_drewN | apply Kd.R_drew)); exact HO497.out)) k_ hk⟩))
                          (case aO => exact (by (with_reducible repeat (first | apply Kd.R_alloc | apply Kd.R_drewN | apply Kd.R_drew)); exact Kd.R_mono HO490.out (fun _ hk => ⟨hk.1.1.2, ⟨hk.1.2, hk.2⟩⟩)))
                          (case aS => exact (below_size (by repeat (first | (with_reducible first | exact HB.out | apply below_alloc | apply pw_below_drewN | apply below_drew1) | exact HB.out))))
                          (case aL => have := LMc40.out; omega)
                          intro v499 w49 ho hb hg hat
                          rw [← Ny498.out] at ho
                          have n0_ := Aside0.mk (Kd.R_after (ok := (fun k_ => some k_ ≠ (.slice Ao47 x7_20.length co47 : Value).ownBlock ∧ some k_ ≠ (.slice Ao50 t495.length co50 : Value).ownBlock)) (by (with_reducible repeat (first | apply Kd.R_alloc | apply Kd.R_drewN | apply Kd.R_drew)); exact Kd.R_mono HO_6.out (fun _ hk => ⟨⟨hk.1.1, hk.2⟩, hk.1.2⟩)) hg hat)
                          have n1_ := Aside0.mk (Kd.R_after (ok := (fun k_ => some k_ ≠ (.slice Ao42 x6_20.length co42 : Value).ownBlock ∧ some k_ ≠ (.slice Ao50 t495.length co50 : Value).ownBlock)) (by (with_reducible repeat (first | apply Kd.R_alloc | apply Kd.R_drewN | apply Kd.R_drew)); exact Kd.R_mono HO_7.out (fun _ hk => ⟨⟨hk.1.1, hk.2⟩, hk.1.2⟩)) hg hat)
                          have n2_ := Aside0.mk (Kd.R_after (ok := (fun k_ => some k_ ≠ (.slice Ao42 x6_20.length co42 : Value).ownBlock ∧ some k_ ≠ (.slice Ao47 x7_20.length co47 : Value).ownBlock)) (by (with_reducible repeat (first | apply Kd.R_alloc | apply Kd.R_drewN | apply Kd.R_drew)); exact Kd.R_mono HO497.out (fun _ hk => ⟨⟨hk.1.1.2, hk.1.2⟩, hk.2⟩)) hg hat)
                          have n3_ := Aside0.mk (hb)
                          have n4_ := Aside0.mk ((show Kd.C (Kd.int .u8) w49 Ao42 y484.length y484 from by rw [Ny484.out]; exact Kd.C_take (m := ((ji33) : Int).toNat) ((Kd.R_reads' (Kd.R_after (ok := (fun k_ => some k_ ≠ (.slice Ao47 x7_20.length co47 : Value).ownBlock ∧ some k_ ≠ (.slice Ao50 t495.length co50 : Value).ownBlock)) (by (with_reducible repeat (first | apply Kd.R_alloc | apply Kd.R_drewN | apply Kd.R_drew)); exact Kd.R_mono HO_6.out (fun _ hk => ⟨⟨hk.1.1, hk.2⟩, hk.1.2⟩)) hg hat)).2.2) KL44.out))
                          have n5_ := Aside0.mk ((show Kd.C (Kd.int .u8) w49 A45 y491.length y491 from by rw [Ny491.out, KA45.out]; exact Kd.C_drop (m := ((ji33) : Int).toNat) (c := co42) ((Kd.R_reads' (Kd.R_after (ok := (fun k_ => some k_ ≠ (.slice Ao47 x7_20.length co47 : Value).ownBlock ∧ some k_ ≠ (.slice Ao50 t495.length co50 : Value).ownBlock)) (by (with_reducible repeat (first | apply Kd.R_alloc | apply Kd.R_drewN | apply Kd.R_drew)); exact Kd.R_mono HO_6.out (fun _ hk => ⟨⟨hk.1.1, hk.2⟩, hk.1.2⟩)) hg hat)).2.2) KL45.out ((Kd.R_reads' (Kd.R_after (ok := (fun k_ => some k_ ≠ (.slice Ao47 x7_20.length co47 : Value).ownBlock ∧ some k_ ≠ (.slice Ao50 t495.length co50 : Value).ownBlock)) (by (with_reducible repeat (first | apply Kd.R_alloc | apply Kd.R_drewN | apply Kd.R_drew)); exact Kd.R_mono HO_6.out (fun _ hk => ⟨⟨hk.1.1, hk.2⟩, hk.1.2⟩)) hg hat)).2.1)))
                          have n6_ := Aside0.mk (ho)
                          clear HO_6
                          clear HO_7
                          clear HO497
                          clear HB
                          clear HR487
                          clear HR494
                          clear HO490
                          have HO_6 := n0_
                          have HO_7 := n1_
                          have HO497 := n2_
                          have HB := n3_
                          have HR487 := n4_
                          have HR494 := n5_
                          have HO500 := n6_
                          clear n0_ n1_ n2_ n3_ n4_ n5_ n6_
                          clear ho hb hg hat
                          refine hK.out _ _ trivial (fun hHeld => ?_)
                          clear hK K
                          refine norm_ (a' := ?_) ?_ ?_
                          rotate_left
                          · show Act.put _ (some 59) _ = _
                            simp only [Act.put, List.setIfInBounds_toArray, List.set_cons_zero, List.set_cons_succ, i64_w, i32_w]
                            rfl
                          refine pure_ (i := 10) (N := some 6) (v := ?_) (a' := ?_) #[true, true, true, true, true, true, true, true, true, true, true] rfl rfl (any_of HT_.out (by kernel_rfl)) (fun _ _ _ h => h) (Or.inl ⟨by rfl, ?_⟩) ?_ ?_
                          rotate_left
                          · intro w'
                            go_simp
                            with_reducible rfl
                          rotate_left
                          · simp only [Act.put, List.setIfInBounds_toArray, List.set_cons_zero, List.set_cons_succ, i64_w, i32_w]
                            rfl
                          refine done_ (done_of HT_.out (by kernel_rfl)) ?_
                          try go_wp2_with (first | ((with_reducible refine gate_dst (N := 60) rfl ?_); (try (refine gate_guard (by rfl) ?_; dsimp only)); refine Kd.R_make (Kd.int .u8) _ 5 rfl (N := 60) rfl 29 _ _ rfl 16 rfl rfl Try.underlying29 (.int .u8 0) 1 info5 rfl (by decide) (by omega) 0 (ok := fun _ => True) (okp := fun _ => True) rfl (fun _ hk => hk) trivial (by omega) (by omega) (Below.refl _ _) (Nat.le_refl _) ?_; intro v502 w51 ho52 hb hg_ hnew_; clear hg_ hnew_; (first | rw [← Ny501.out] at ho52 | (simp only [Int.reduceToNat] at ho52; rw [← Ny501.out] at ho52)); have n0_ := Aside0.mk (Kd.R_elder' (by (with_reducible repeat (first | apply Kd.R_alloc | apply Kd.R_drewN | apply Kd.R_drew)); exact HO_6.out) (Kd.R_base ho52) hb); have n1_ := Aside0.mk (Kd.R_elder' (by (with_reducible repeat (first | apply Kd.R_alloc | apply Kd.R_drewN | apply Kd.R_drew)); exact HO_7.out) (Kd.R_base ho52) hb); have n2_ := Aside0.mk (Kd.R_elder' (by (with_reducible repeat (first | apply Kd.R_alloc | apply Kd.R_drewN | apply Kd.R_drew)); exact HO497.out) (Kd.R_base ho52) hb); have n3_ := Aside0.mk (Kd.R_elder' (by (with_reducible repeat (first | apply Kd.R_alloc | apply Kd.R_drewN | apply Kd.R_drew)); exact HO500.out) (Kd.R_base ho52) hb); have n4_ := Aside0.mk (Kd.R_lower (Kd.R_new' (Kd.R_new' (Kd.R_new' (Kd.R_new' ho52 (Kd.R_lt (by (with_reducible repeat (first | apply Kd.R_alloc | apply Kd.R_drewN | apply Kd.R_drew)); exact HO_6.out))) (Kd.R_lt (by (with_reducible repeat (first | apply Kd.R_alloc | apply Kd.R_drewN | apply Kd.R_drew)); exact HO_7.out))) (Kd.R_lt (by (with_reducible repeat (first | apply Kd.R_alloc | apply Kd.R_drewN | apply Kd.R_drew)); exact HO497.out))) (Kd.R_lt (by (with_reducible repeat (first | apply Kd.R_alloc | apply Kd.R_drewN | apply Kd.R_drew)); exact HO500.out))) (below_size (by repeat (first | (with_reducible first | exact HB.out | apply below_alloc | apply pw_below_drewN | apply below_drew1) | exact HB.out)))); have n5_ := Aside0.mk (Kd.C_below (by repeat (first | (with_reducible exact HR487.out) | (with_reducible refine Kd.C_alloc ?_ _) | (with_reducible refine Kd.C_drewN ?_ _) | (with_reducible refine Kd.C_drew ?_) | exact HR487.out)) hb); have n6_ := Aside0.mk (Kd.C_below (by repeat (first | (with_reducible exact HR494.out) | (with_reducible refine Kd.C_alloc ?_ _) | (with_reducible refine Kd.C_drewN ?_ _) | (with_reducible refine Kd.C_drew ?_) | exact HR494.out)) hb); have n7_ := Aside0.mk (below_step (by repeat (first | (with_reducible first | exact HB.out | apply below_alloc | apply pw_below_drewN | apply below_drew1) | exact HB.out)) hb); clear HO_6; clear HO_7; clear HO497; clear HO500; clear HR487; clear HR494; clear HB; have HO_6 := n0_; have HO_7 := n1_; have HO497 := n2_; have HO500 := n3_; have HO503 := n4_; have HR487 := n5_; have HR494 := n6_; have HB := n7_; clear n0_ n1_ n2_ n3_ n4_ n5_ n6_ n7_; clear hb ho52))
                          go_loopg [9, 10] kj20 (fun kq v9 v10 w' => ∃ (x9_4 : List Int) (x10_4 : Int), v10 = .int .i64 x10_4 ∧ Aside0 (spec_Cmac.l1 kq l0 y498 x9_4 x10_4 = some r) ∧ Aside0 (kq ≤ kj20) ∧ Aside0 (Kd.R (Kd.int .u8) 5 w' w.heap.size (fun k_ => some k_ ≠ (v9 : Value).ownBlock) v499 y498) ∧ Aside0 (Kd.R (Kd.int .u8) 5 w' w.heap.size (fun k_ => some k_ ≠ (v499 : Value).ownBlock) v9 x9_4) ∧ Aside0 (Kd.C (Kd.int .u8) w' Ao42 y484.length y484) ∧ Aside0 (Kd.C (Kd.int .u8) w' A45 y491.length y491) ∧ Aside0 (Below w.heap.size w w'))
                          case atStart => exact ⟨(y501), (0), (by first | rfl | (simp; done) | (simp [*]; done)), H', ⟨Nat.le_refl _⟩, ⟨by (with_reducible repeat (first | apply Kd.R_alloc | apply Kd.R_drewN | apply Kd.R_drew)); exact Kd.R_mono HO500.out (fun _ hk => hk.2)⟩, ⟨by (with_reducible repeat (first | apply Kd.R_alloc | apply Kd.R_drewN | apply Kd.R_drew)); exact Kd.R_mono HO503.out (fun _ hk => hk.2)⟩, ⟨by repeat (first | (with_reducible exact HR487.out) | (with_reducible refine Kd.C_alloc ?_ _) | (with_reducible refine Kd.C_drewN ?_ _) | (with_reducible refine Kd.C_drew ?_) | exact HR487.out)⟩, ⟨by repeat (first | (with_reducible exact HR494.out) | (with_reducible refine Kd.C_alloc ?_ _) | (with_reducible refine Kd.C_drewN ?_ _) | (with_reducible refine Kd.C_drew ?_) | exact HR494.out)⟩, ⟨by repeat (first | (with_reducible first | exact HB.out | apply below_alloc | apply pw_below_drewN | apply below_drew1) | exact HB.out)⟩⟩
                          case round =>
                            clear H'
                            try clear c1
                            try clear c2
                            try clear p2
                            try clear c3
                            try clear c4
                            try clear c4b0
                            try clear c4b1
                            try clear q4
                            try clear c5
                            try clear c6
                            try clear c6b0
                            try clear c6b1
                            try clear p6
                            try clear c9
                            try clear c10
                            try clear c11
                            try clear c18
                            try clear c18b0
                            try clear c18b1
                            try clear c18b2
                            try clear c22
                            try clear c24
                            try clear c28
                            try clear c28b0
                            try clear c28b1
                            try clear c30
                            try clear c34
                            try clear c34b0
                            try clear c34b1
                            try clear c35
                            try clear c35b0
                            try clear c35b1
                            try clear c37
                            try clear c37b0
                            try clear c38
                            try clear c38b0
                            try clear c40
                            try clear c41
                            try clear c41b0
                            try clear c41b1
                            try clear q44
                            try clear c45
                            try clear q45
                            try clear p2
                            try clear q045
                            try clear q44
                            try clear q45
                            obtain ⟨x9_4, x10_4, rfl, HA, HK4, HO_6, HO_9, HR487, HR494, HB⟩ := hrel
                            cases gk with
                            | zero => exact absurd HA.out (by simp [spec_Cmac.l1])
                            | succ k4 =>
                              have H := HA.out
                              clear HA
                              simp only [spec_Cmac.l1] at H
                              by_cases c53 : x10_4 < (y498.length : Int)
                              · rw [if_pos c53] at H
                                have c53b0 : decide (x10_4 < (y498.length : Int)) = true := decide_eq_true c53
                                clear c53
                                by_cases c54 : 0 ≤ x10_4
                                · rw [if_pos c54] at H
                                  have c54b0 := eq_true c54
                                  have c54b1 : decide (0 ≤ x10_4) = true := decide_eq_true c54
                                  clear c54
                                  by_cases c55 : x10_4 ≤ (wrap64 (x10_4 + 16))
                                  · rw [if_pos c55] at H
                                    have c55b0 := eq_true c55
                                    have c55b1 : decide (x10_4 ≤ (wrap64 (x10_4 + 16))) = true := decide_eq_true c55
                                    by_cases c56 : (wrap64 (x10_4 + 16)) ≤ (y498.length : Int)
                                    · rw [if_pos c56] at H
                                      have c56b0 := eq_true c56
                                      have c56b1 : decide ((wrap64 (x10_4 + 16)) ≤ (y498.length : Int)) = true := decide_eq_true c56
                                      obtain ⟨y504, hy504⟩ : ∃ y_ : List Int, y_ = ((y498.take ((wrap64 (x10_4 + 16)) : Int).toNat).drop (x10_4 : Int).toNat) := ⟨_, rfl⟩
                                      replace H : ((spec_l1Xor.f k4 x9_4 y504).bind fun t508 => ((spec_Aes.f k4 l0 t508 false).bind fun t511 => (spec_Cmac.l1 k4 l0 y498 t511 (wrap64 (x10_4 + 16))))) = some r := by first | (rw [hy504]; with_reducible exact H) | (have H2_ := (Option.bind_some _ _).symm.trans H; rw [hy504]; with_reducible exact H2_) | (have H2_ := (Option.bind_some _ _).symm.trans H; with_reducible exact H2_) | with_reducible exact H | (rw [hy504]; exact H) | exact H
                                      have Ny504 := Aside0.mk hy504
                                      clear hy504
                                      replace H := Option.bind_eq_some_iff.mp H
                                      obtain ⟨t508, A570, H⟩ := H
                                      replace H : ((spec_Aes.f k4 l0 t508 false).bind fun t511 => (spec_Cmac.l1 k4 l0 y498 t511 (wrap64 (x10_4 + 16)))) = some r := H
                                      have A57 := Aside0.mk A570
                                      clear A570
                                      replace H := Option.bind_eq_some_iff.mp H
                                      obtain ⟨t511, A580, H⟩ := H
                                      replace H : (spec_Cmac.l1 k4 l0 y498 t511 (wrap64 (x10_4 + 16))) = some r := H
                                      have A58 := Aside0.mk A580
                                      clear A580
                                      have H' := Aside0.mk H
                                      clear H
                                      obtain ⟨Ao59, co59, eo59⟩ := Kd.R_slice HO_6.out
                                      subst eo59
                                      have q60 : ((wrap64 (x10_4 + 16)) : Int) ≤ ((y498.length : Int) : Int) := of_decide_eq_true (by first | (with_reducible assumption) | assumption)
                                      obtain ⟨i060, hi060, _, hsz60, _⟩ := info_parts info5
                                      have hroom60 : y498.length ≤ co59 := (Kd.R_reads' HO_6.out).2.1
                                      have hC60 : Kd.C (Kd.int .u8) _ Ao59 y498.length y498 := (Kd.R_reads' HO_6.out).2.2
                                      have ql60 : (x10_4 : Int) ≤ ((wrap64 (x10_4 + 16)) : Int) := of_decide_eq_true (by first | (with_reducible assumption) | assumption)
                                      have q060 : (0 : Int) ≤ (x10_4 : Int) := of_decide_eq_true (by first | (with_reducible assumption) | assumption)
                                      have hcut60 := cut_mid (P := Try.prog) 29 5 .i64 .i64 Try.underlying29 hi060 1 hsz60 Ao59 y498.length co59 x10_4 (wrap64 (x10_4 + 16)) q060 ql60 q60 hroom60
                                      have hr60 := Kd.C_mid (lo := (x10_4 : Int).toNat) (hi := ((wrap64 (x10_4 + 16)) : Int).toNat) (c := co59) hC60 (by omega) (by omega) hroom60
                                      obtain ⟨A60, hA60⟩ : ∃ A1, A1 = (if co59 = (x10_4 : Int).toNat then Ao59 else (Ao59 : Option Addr).map (·.add ((x10_4 : Int).toNat * 1))) := ⟨_, rfl⟩
                                      obtain ⟨c60, hc60⟩ : ∃ c1, c1 = co59 - (x10_4 : Int).toNat := ⟨_, rfl⟩
                                      have hy60 : y504.length = ((wrap64 (x10_4 + 16)) : Int).toNat - (x10_4 : Int).toNat := (by rw [Ny504.out, List.length_drop, List.length_take] <;> omega)
                                      rw [show ((y498).take ((wrap64 (x10_4 + 16)) : Int).toNat).drop (x10_4 : Int).toNat = y504 from Ny504.out.symm] at hr60
                                      replace hr60 : Kd.C (Kd.int .u8) _ A60 y504.length y504 := (by rw [hA60]; exact hr60)
                                      rw [← hy60, ← hA60, ← hc60] at hcut60
                                      have HR507 := Aside0.mk hr60
                                      have HC507 := Aside0.mk (show y504.length ≤ c60 from by rw [hy60, hc60]; exact Nat.sub_le_sub_right (Nat.le_trans (by omega) hroom60) _)
                                      clear hr60 hC60 hroom60 hi060 hsz60 hc60
                                      have KY60 := Aside0.mk hy60
                                      have KA60 := Aside0.mk hA60
                                      clear hy60 hA60
                                      have KL60 := Aside0.mk (show ((wrap64 (x10_4 + 16)) : Int).toNat ≤ y498.length from by omega)
                                      have KM60 := Aside0.mk (show (x10_4 : Int).toNat ≤ ((wrap64 (x10_4 + 16)) : Int).toNat from by omega)
                                      replace q60 := eq_true q60
                                      obtain ⟨Ao61, co61, eo61⟩ := Kd.R_slice HO_9.out
                                      subst eo61
                                      go_wp2_with (first | ((with_reducible refine gate_callee (f := 45) rfl ?_); refine goesL_ (some 74) rfl rfl Try.func45 (by kernel_rfl) rfl #[.slice Ao61 x9_4.length co61, .slice A60 y504.length c60] rfl (by (try simp only [List.map_toArray, List.map_cons, List.map_nil]); first | done | rfl | (simp only [List.length_drop, List.length_take]; rfl)) ?_; (with_reducible refine (spec_l1Xor.calls k4 _ _ x9_4 _ _ y504 t508 _ ?side1 ?side2 ?side3 ?side4 A57.out).mono ?_); (case side1 => repeat (first | exact (Kd.R_reads' HO_9.out).2.2 | (with_reducible refine Kd.C_alloc ?_ _) | (with_reducible refine Kd.C_drewN ?_ _) | (with_reducible refine Kd.C_drew ?_))); (case side2 => exact (Kd.R_reads' HO_9.out).2.1); (case side3 => repeat (first | exact (by repeat (first | (with_reducible exact HR507.out) | (with_reducible refine Kd.C_alloc ?_ _) | (with_reducible refine Kd.C_drewN ?_ _) | (with_reducible refine Kd.C_drew ?_) | exact HR507.out)) | (with_reducible refine Kd.C_alloc ?_ _) | (with_reducible refine Kd.C_drewN ?_ _) | (with_reducible refine Kd.C_drew ?_))); (case side4 => exact HC507.out); rintro e w62 ⟨v509, rfl, ho0, hb⟩; refine ⟨_, rfl, ?_⟩; have n0_ := Aside0.mk (Kd.R_elder' (by (with_reducible repeat (first | apply Kd.R_alloc | apply Kd.R_drewN | apply Kd.R_drew)); exact HO_6.out) (Kd.R_base ho0) hb); have n1_ := Aside0.mk (Kd.R_elder' (by (with_reducible repeat (first | apply Kd.R_alloc | apply Kd.R_drewN | apply Kd.R_drew)); exact HO_9.out) (Kd.R_base ho0) hb); have n2_ := Aside0.mk (Kd.R_lower (Kd.R_new' (Kd.R_new' ho0 (Kd.R_lt (by (with_reducible repeat (first | apply Kd.R_alloc | apply Kd.R_drewN | apply Kd.R_drew)); exact HO_6.out))) (Kd.R_lt (by (with_reducible repeat (first | apply Kd.R_alloc | apply Kd.R_drewN | apply Kd.R_drew)); exact HO_9.out))) (below_size (by repeat (first | (with_reducible first | exact HB.out | apply below_alloc | apply pw_below_drewN | apply below_drew1) | exact HB.out)))); have n3_ := Aside0.mk (Kd.C_below (by repeat (first | (with_reducible exact HR487.out) | (with_reducible refine Kd.C_alloc ?_ _) | (with_reducible refine Kd.C_drewN ?_ _) | (with_reducible refine Kd.C_drew ?_) | exact HR487.out)) hb); have n4_ := Aside0.mk (Kd.C_below (by repeat (first | (with_reducible exact HR494.out) | (with_reducible refine Kd.C_alloc ?_ _) | (with_reducible refine Kd.C_drewN ?_ _) | (with_reducible refine Kd.C_drew ?_) | exact HR494.out)) hb); have n5_ := Aside0.mk (Kd.C_below (by repeat (first | (with_reducible exact HR507.out) | (with_reducible refine Kd.C_alloc ?_ _) | (with_reducible refine Kd.C_drewN ?_ _) | (with_reducible refine Kd.C_drew ?_) | exact HR507.out)) hb); have n6_ := Aside0.mk (below_step (by repeat (first | (with_reducible first | exact HB.out | apply below_alloc | apply pw_below_drewN | apply below_drew1) | exact HB.out)) hb); clear HO_6; clear HO_9; clear HR487; clear HR494; clear HR507; clear HB; have HO_6 := n0_; have HO_9 := n1_; have HO510 := n2_; have HR487 := n3_; have HR494 := n4_; have HR507 := n5_; have HB := n6_; clear n0_ n1_ n2_ n3_ n4_ n5_ n6_; (try clear hb); (try clear hb2); (try clear hk); (try clear hi); (try clear ho0); obtain ⟨Ao63, co63, eo63⟩ := Kd.R_slice HO510.out; subst eo63) | ((with_reducible refine gate_callee (f := 106) rfl ?_); refine goesL_ (some 75) rfl rfl Try.func106 (by kernel_rfl) rfl #[.slice A0 l0.length c0, .slice Ao63 t508.length co63, .bool false] rfl (by (try simp only [List.map_toArray, List.map_cons, List.map_nil]); first | done | rfl | (simp only [List.length_drop, List.length_take]; rfl)) ?_; (with_reducible refine (spec_Aes.calls k4 _ _ l0 _ _ t508 false t511 _ ?side1 ?side2 ?side3 ?side4 A58.out).mono ?_); (case side1 => repeat (first | exact (Kd.C_below HR0.out HB.out) | (with_reducible refine Kd.C_alloc ?_ _) | (with_reducible refine Kd.C_drewN ?_ _) | (with_reducible refine Kd.C_drew ?_))); (case side2 => exact HC0.out); (case side3 => repeat (first | exact (Kd.R_reads' HO510.out).2.2 | (with_reducible refine Kd.C_alloc ?_ _) | (with_reducible refine Kd.C_drewN ?_ _) | (with_reducible refine Kd.C_drew ?_))); (case side4 => exact (Kd.R_reads' HO510.out).2.1); rintro e w64 ⟨v512, rfl, ho0, hb⟩; refine ⟨_, rfl, ?_⟩; have n0_ := Aside0.mk (Kd.R_elder' (by (with_reducible repeat (first | apply Kd.R_alloc | apply Kd.R_drewN | apply Kd.R_drew)); exact HO_6.out) (Kd.R_base ho0) hb); have n1_ := Aside0.mk (Kd.R_elder' (by (with_reducible repeat (first | apply Kd.R_alloc | apply Kd.R_drewN | apply Kd.R_drew)); exact HO_9.out) (Kd.R_base ho0) hb); have n2_ := Aside0.mk (Kd.R_elder' (by (with_reducible repeat (first | apply Kd.R_alloc | apply Kd.R_drewN | apply Kd.R_drew)); exact HO510.out) (Kd.R_base ho0) hb); have n3_ := Aside0.mk (Kd.R_lower (Kd.R_new' (Kd.R_new' (Kd.R_new' ho0 (Kd.R_lt (by (with_reducible repeat (first | apply Kd.R_alloc | apply Kd.R_drewN | apply Kd.R_drew)); exact HO_6.out))) (Kd.R_lt (by (with_reducible repeat (first | apply Kd.R_alloc | apply Kd.R_drewN | apply Kd.R_drew)); exact HO_9.out))) (Kd.R_lt (by (with_reducible repeat (first | apply Kd.R_alloc | apply Kd.R_drewN | apply Kd.R_drew)); exact HO510.out))) (below_size (by repeat (first | (with_reducible first | exact HB.out | apply below_alloc | apply pw_below_drewN | apply below_drew1) | exact HB.out)))); have n4_ := Aside0.mk (Kd.C_below (by repeat (first | (with_reducible exact HR487.out) | (with_reducible refine Kd.C_alloc ?_ _) | (with_reducible refine Kd.C_drewN ?_ _) | (with_reducible refine Kd.C_drew ?_) | exact HR487.out)) hb); have n5_ := Aside0.mk (Kd.C_below (by repeat (first | (with_reducible exact HR494.out) | (with_reducible refine Kd.C_alloc ?_ _) | (with_reducible refine Kd.C_drewN ?_ _) | (with_reducible refine Kd.C_drew ?_) | exact HR494.out)) hb); have n6_ := Aside0.mk (Kd.C_below (by repeat (first | (with_reducible exact HR507.out) | (with_reducible refine Kd.C_alloc ?_ _) | (with_reducible refine Kd.C_drewN ?_ _) | (with_reducible refine Kd.C_drew ?_) | exact HR507.out)) hb); have n7_ := Aside0.mk (below_step (by repeat (first | (with_reducible first | exact HB.out | apply below_alloc | apply pw_below_drewN | apply below_drew1) | exact HB.out)) hb); clear HO_6; clear HO_9; clear HO510; clear HR487; clear HR494; clear HR507; clear HB; have HO_6 := n0_; have HO_9 := n1_; have HO510 := n2_; have HO513 := n3_; have HR487 := n4_; have HR494 := n5_; have HR507 := n6_; have HB := n7_; clear n0_ n1_ n2_ n3_ n4_ n5_ n6_ n7_; (try clear hb); (try clear hb2); (try clear hk); (try clear hi); (try clear ho0)))
                                      go_roundg k4
                                      case measure => have := HJ2.out; have := HJ9.out; have := HJ20.out; have := HK4.out; omega
                                      case rel => exact ⟨(t511), (wrap64 (x10_4 + 16)), (by first | rfl | (simp; done) | (simp [*]; done)), H', ⟨by have := HJ2.out; have := HJ9.out; have := HJ20.out; have := HK4.out; omega⟩, ⟨by (with_reducible repeat (first | apply Kd.R_alloc | apply Kd.R_drewN | apply Kd.R_drew)); exact Kd.R_mono HO_6.out (fun _ hk => hk.2)⟩, ⟨by (with_reducible repeat (first | apply Kd.R_alloc | apply Kd.R_drewN | apply Kd.R_drew)); exact Kd.R_mono HO513.out (fun _ hk => hk.1.1.2)⟩, ⟨by repeat (first | (with_reducible exact HR487.out) | (with_reducible refine Kd.C_alloc ?_ _) | (with_reducible refine Kd.C_drewN ?_ _) | (with_reducible refine Kd.C_drew ?_) | exact HR487.out)⟩, ⟨by repeat (first | (with_reducible exact HR494.out) | (with_reducible refine Kd.C_alloc ?_ _) | (with_reducible refine Kd.C_drewN ?_ _) | (with_reducible refine Kd.C_drew ?_) | exact HR494.out)⟩, ⟨by repeat (first | (with_reducible first | exact HB.out | apply below_alloc | apply pw_below_drewN | apply below_drew1) | exact HB.out)⟩⟩
                                    · rw [if_neg c56] at H
                                      exact absurd H (by simp)
                                  · rw [if_neg c55] at H
                                    exact absurd H (by simp)
                                · rw [if_neg c54] at H
                                  exact absurd H (by simp)
                              · rw [if_neg c53] at H
                                have c53b0 : decide (x10_4 < (y498.length : Int)) = false := decide_eq_false c53
                                clear c53
                                obtain rfl := Option.some.inj H
                                obtain ⟨Ao65, co65, eo65⟩ := Kd.R_slice HO_6.out
                                subst eo65
                                go_wp2
                                go_ret
                                exact ⟨_, by first | rfl | (simp [errW_none, errW_some] <;> rfl) | (simp only [← hji33]; first | rfl | (simp [errW_none, errW_some] <;> rfl)) | (simp [*, errW_none, errW_some] <;> rfl), by (with_reducible repeat (first | apply Kd.R_alloc | apply Kd.R_drewN | apply Kd.R_drew)); exact Kd.R_mono HO_9.out (fun _ hk => trivial), by repeat (first | (with_reducible first | exact HB.out | apply below_alloc | apply pw_below_drewN | apply below_drew1) | exact HB.out)⟩
                        · rw [if_neg c41] at H
                          exact absurd H (by simp)
                      · rw [if_neg c40] at H
                        exact absurd H (by simp)
                    · rw [if_neg c35] at H
                      exact absurd H (by simp)
                  · rw [if_neg c34] at H
                    exact absurd H (by simp)
        · rw [if_neg c6] at H
          exact absurd H (by simp)

end Go.Proofs.Ytiejallnkgllnaa.LQ
namespace Go.Proofs.Ytiejallnkgllnaa
open Go.RowKit Go.Proofs.YtiejallnkgllnaaW.PrintWords Go.Proofs.YtiejallnkgllnaaW.PrintLast Go.Proofs.YtiejallnkgllnaaW.PrintMore Go.Proofs.Ytiejallnkgllnaa.D
open Go.Proofs.Ytiejallnkgllnaa.B (xorL xorL_length)
open Go.Proofs.Ytiejallnkgllnaa.LQ
set_option linter.unusedVariables false
def isByteO : Option Int → Bool
  | some r => decide (0 ≤ r ∧ r ≤ 255)
  | none => false
theorem isByteO_of {o : Option Int} (h : isByteO o = true) : ∃ r, o = some r ∧ 0 ≤ r ∧ r ≤ 255 := by
  cases o with
  | none => cases h
  | some r => exact ⟨r, rfl, of_decide_eq_true h⟩
theorem mul_fin : ∀ n : Fin 256, isByteO (spec_l1Mul.f 12 (n.val : Int) 1) = true ∧ isByteO (spec_l1Mul.f 12 (n.val : Int) 2) = true ∧ isByteO (spec_l1Mul.f 12 (n.val : Int) 3) = true := by decide +kernel
theorem sub_fin : ∀ n : Fin 256, isByteO (spec_l1Sub.f 30 (n.val : Int)) = true := by decide +kernel
theorem byte_fin {x : Int} (h : 0 ≤ x ∧ x ≤ 255) : ∃ n : Fin 256, x = (n.val : Int) := ⟨⟨x.toNat, by omega⟩, by simp; omega⟩
theorem sub_some (x : Int) (h : 0 ≤ x ∧ x ≤ 255) (k : Nat) (hk : 30 ≤ k) : ∃ r, spec_l1Sub.f k x = some r ∧ 0 ≤ r ∧ r ≤ 255 := by
  obtain ⟨n, rfl⟩ := byte_fin h
  obtain ⟨r, h1, h2⟩ := isByteO_of (sub_fin n)
  exact ⟨r, at_rounds (fun k => spec_l1Sub.mono _ k) hk h1, h2⟩
theorem mul_some (x y : Int) (h : 0 ≤ x ∧ x ≤ 255) (hy : y = 1 ∨ y = 2 ∨ y = 3) (k : Nat) (hk : 12 ≤ k) : ∃ r, spec_l1Mul.f k x y = some r ∧ 0 ≤ r ∧ r ≤ 255 := by
  obtain ⟨n, rfl⟩ := byte_fin h
  have hm := mul_fin n
  rcases hy with rfl | rfl | rfl
  · obtain ⟨r, h1, h2⟩ := isByteO_of hm.1
    exact ⟨r, at_rounds (fun k => spec_l1Mul.mono _ _ k) hk h1, h2⟩
  · obtain ⟨r, h1, h2⟩ := isByteO_of hm.2.1
    exact ⟨r, at_rounds (fun k => spec_l1Mul.mono _ _ k) hk h1, h2⟩
  · obtain ⟨r, h1, h2⟩ := isByteO_of hm.2.2
    exact ⟨r, at_rounds (fun k => spec_l1Mul.mono _ _ k) hk h1, h2⟩
end Go.Proofs.Ytiejallnkgllnaa
namespace Go.Proofs.Ytiejallnkgllnaa
open Go.RowKit Go.Proofs.YtiejallnkgllnaaW.PrintWords Go.Proofs.YtiejallnkgllnaaW.PrintLast Go.Proofs.YtiejallnkgllnaaW.PrintMore Go.Proofs.Ytiejallnkgllnaa.D
open Go.Proofs.Ytiejallnkgllnaa.B (xorL xorL_length)
open Go.Proofs.Ytiejallnkgllnaa.LQ
set_option linter.unusedVariables false
def G16 (l : List Int) : Prop := l.length = 16 ∧ Bytes l
theorem w64_of {z : Int} (h : -9223372036854775808 ≤ z ∧ z ≤ 9223372036854775807) : wrap64 z = z := by unfold wrap64; omega
theorem G16.rd {l : List Int} (h : G16 l) (i : Nat) (hi : i < 16) : 0 ≤ rd l (i : Int) ∧ rd l (i : Int) ≤ 255 := by
  rw [rd_nth, nth_at _ _ (by rw [h.1]; exact hi)]
  exact h.2 _ (List.getElem_mem _)
theorem G16.set {l : List Int} (h : G16 l) (i : Nat) (x : Int) (hx : 0 ≤ x ∧ x ≤ 255) : G16 (l.set i x) := ⟨by simpa using h.1, fun y hy => by
  rcases List.mem_or_eq_of_mem_set hy with h1 | rfl
  · exact h.2 y h1
  · exact hx⟩
theorem G16.zeros : G16 (List.replicate 16 0) := ⟨by simp, fun x hx => by have := List.eq_of_mem_replicate hx; omega⟩
theorem mix_l2 (s : List Int) (hs : G16 s) (c i : Nat) (hc : c < 4) (hi : i < 4) (d : Nat) : ∀ (k j : Nat) (x5 : List Int), G16 x5 → j ≤ 4 → 4 - j = d → d + 14 < k →
    ∃ y, G16 y ∧ spec_l1Mix.l2 k s [2, 3, 1, 1] x5 (c : Int) (i : Int) (j : Int) = spec_l1Mix.l1 (k - d - 1) s [2, 3, 1, 1] y (c : Int) ((i + 1 : Nat) : Int) := by
  induction d with
  | zero =>
    intro k j x5 h5 hj hd hk
    obtain ⟨k, rfl⟩ : ∃ m, k = m + 1 := ⟨k - 1, by omega⟩
    obtain rfl : j = 4 := by omega
    refine ⟨x5, h5, ?_⟩
    rw [spec_l1Mix.l2, if_neg (by omega), w64_of (by omega)]
    rfl
  | succ d ih =>
    intro k j x5 h5 hj hd hk
    obtain ⟨k, rfl⟩ : ∃ m, k = m + 1 := ⟨k - 1, by omega⟩
    have e1 : wrap64 ((wrap64 (4 * (c : Int))) + (i : Int)) = ((4 * c + i : Nat) : Int) := by rw [w64_of (z := 4 * (c : Int)) (by omega), w64_of (by omega)]; omega
    have e2 : wrap64 ((wrap64 (4 * (c : Int))) + (j : Int)) = ((4 * c + j : Nat) : Int) := by rw [w64_of (z := 4 * (c : Int)) (by omega), w64_of (by omega)]; omega
    have e3 : Int.tmod (wrap64 ((wrap64 ((j : Int) - (i : Int))) + 4)) 4 = (((j + 4 - i) % 4 : Nat) : Int) := by
      rw [w64_of (z := (j : Int) - (i : Int)) (by omega), w64_of (by omega), Int.tmod_eq_emod_of_nonneg (by omega)]
      omega
    have hr : rd [2, 3, 1, 1] (((j + 4 - i) % 4 : Nat) : Int) = 1 ∨ rd [2, 3, 1, 1] (((j + 4 - i) % 4 : Nat) : Int) = 2 ∨ rd [2, 3, 1, 1] (((j + 4 - i) % 4 : Nat) : Int) = 3 := by
      have : ∀ q : Fin 4, rd [2, 3, 1, 1] (q.val : Int) = 1 ∨ rd [2, 3, 1, 1] (q.val : Int) = 2 ∨ rd [2, 3, 1, 1] (q.val : Int) = 3 := by decide
      exact this ⟨(j + 4 - i) % 4, by omega⟩
    obtain ⟨t, ht, htb⟩ := mul_some (rd s ((4 * c + j : Nat) : Int)) _ (hs.rd (4 * c + j) (by omega)) hr k (by omega)
    have h5l := h5.1
    have hsl := hs.1
    obtain ⟨y, hy, he⟩ := ih k (j + 1) (x5.set (4 * c + i) (Go.bits .xor .u8 (rd x5 ((4 * c + i : Nat) : Int)) t)) (h5.set _ _ (xor_byte _ _ (h5.rd _ (by omega)) htb)) (by omega) (by omega) (by omega)
    refine ⟨y, hy, ?_⟩
    rw [spec_l1Mix.l2, if_pos (by omega), e1, e2, e3, if_pos (by omega), if_pos (by omega), if_pos (by omega), if_pos (by omega), if_pos (by omega), if_pos (by simp; omega), ht, Option.bind_some, Int.toNat_natCast, w64_of (by omega), show k + 1 - (d + 1) - 1 = k - d - 1 by omega]
    exact he
theorem mix_l1 (s : List Int) (hs : G16 s) (c : Nat) (hc : c < 4) (d : Nat) : ∀ (k i : Nat) (x5 : List Int), G16 x5 → i ≤ 4 → 4 - i = d → 6 * d + 20 < k →
    ∃ y, G16 y ∧ spec_l1Mix.l1 k s [2, 3, 1, 1] x5 (c : Int) (i : Int) = spec_l1Mix.l0 (k - 6 * d - 1) s [2, 3, 1, 1] y ((c + 1 : Nat) : Int) := by
  induction d with
  | zero =>
    intro k i x5 h5 hi hd hk
    obtain ⟨k, rfl⟩ : ∃ m, k = m + 1 := ⟨k - 1, by omega⟩
    obtain rfl : i = 4 := by omega
    refine ⟨x5, h5, ?_⟩
    rw [spec_l1Mix.l1, if_neg (by omega), w64_of (by omega)]
    rfl
  | succ d ih =>
    intro k i x5 h5 hi hd hk
    obtain ⟨k, rfl⟩ : ∃ m, k = m + 1 := ⟨k - 1, by omega⟩
    obtain ⟨y, hy, he⟩ := mix_l2 s hs c i hc (by omega) 4 k 0 x5 h5 (by omega) rfl (by omega)
    obtain ⟨z, hz, hf⟩ := ih (k - 4 - 1) (i + 1) y hy (by omega) (by omega) (by omega)
    refine ⟨z, hz, ?_⟩
    rw [spec_l1Mix.l1, if_pos (by omega)]
    refine he.trans (hf.trans ?_)
    congr 1
    omega
theorem mix_l0 (s : List Int) (hs : G16 s) (d : Nat) : ∀ (k c : Nat) (x5 : List Int), G16 x5 → c ≤ 4 → 4 - c = d → 26 * d + 30 < k →
    ∃ y, G16 y ∧ spec_l1Mix.l0 k s [2, 3, 1, 1] x5 (c : Int) = some y := by
  induction d with
  | zero =>
    intro k c x5 h5 hc hd hk
    obtain ⟨k, rfl⟩ : ∃ m, k = m + 1 := ⟨k - 1, by omega⟩
    exact ⟨x5, h5, by rw [spec_l1Mix.l0, if_neg (by omega)]⟩
  | succ d ih =>
    intro k c x5 h5 hc hd hk
    obtain ⟨k, rfl⟩ : ∃ m, k = m + 1 := ⟨k - 1, by omega⟩
    obtain ⟨y, hy, he⟩ := mix_l1 s hs c (by omega) 4 k 0 x5 h5 (by omega) rfl (by omega)
    obtain ⟨z, hz, hf⟩ := ih (k - 6 * 4 - 1) (c + 1) y hy (by omega) (by omega) (by omega)
    exact ⟨z, hz, by rw [spec_l1Mix.l0, if_pos (by omega)]; exact he.trans hf⟩
theorem mix_some (s : List Int) (hs : G16 s) (k : Nat) (hk : 140 < k) : ∃ y, G16 y ∧ spec_l1Mix.f k s [2, 3, 1, 1] = some y := by
  obtain ⟨y, hy, he⟩ := mix_l0 s hs 4 k 0 (List.replicate 16 0) G16.zeros (by omega) rfl (by omega)
  exact ⟨y, hy, by unfold spec_l1Mix.f; rw [if_pos (by decide)]; exact he⟩
theorem shift_l1 (s : List Int) (hs : G16 s) (c : Nat) (hc : c < 4) (d : Nat) : ∀ (k j : Nat) (x5 : List Int), G16 x5 → j ≤ 4 → 4 - j = d → d + 1 < k →
    ∃ y, G16 y ∧ spec_l1Shift.l1 k s 1 x5 (c : Int) (j : Int) = spec_l1Shift.l0 (k - d - 1) s 1 y ((c + 1 : Nat) : Int) := by
  induction d with
  | zero =>
    intro k j x5 h5 hj hd hk
    obtain ⟨k, rfl⟩ : ∃ m, k = m + 1 := ⟨k - 1, by omega⟩
    obtain rfl : j = 4 := by omega
    refine ⟨x5, h5, ?_⟩
    rw [spec_l1Shift.l1, if_neg (by omega), w64_of (by omega)]
    rfl
  | succ d ih =>
    intro k j x5 h5 hj hd hk
    obtain ⟨k, rfl⟩ : ∃ m, k = m + 1 := ⟨k - 1, by omega⟩
    have e0 : Int.tmod (wrap64 ((c : Int) + wrap64 (1 * (j : Int)))) 4 = (((c + j) % 4 : Nat) : Int) := by
      rw [w64_of (z := 1 * (j : Int)) (by omega), w64_of (by omega), Int.tmod_eq_emod_of_nonneg (by omega)]
      omega
    have e1 : wrap64 ((wrap64 (4 * (((c + j) % 4 : Nat) : Int))) + (j : Int)) = ((4 * ((c + j) % 4) + j : Nat) : Int) := by rw [w64_of (z := 4 * (((c + j) % 4 : Nat) : Int)) (by omega), w64_of (by omega)]; omega
    have e2 : wrap64 ((wrap64 (4 * (c : Int))) + (j : Int)) = ((4 * c + j : Nat) : Int) := by rw [w64_of (z := 4 * (c : Int)) (by omega), w64_of (by omega)]; omega
    have h5l := h5.1
    have hsl := hs.1
    obtain ⟨y, hy, he⟩ := ih k (j + 1) (x5.set (4 * c + j) (rd s ((4 * ((c + j) % 4) + j : Nat) : Int))) (h5.set _ _ (hs.rd _ (by omega))) (by omega) (by omega) (by omega)
    refine ⟨y, hy, ?_⟩
    rw [spec_l1Shift.l1, if_pos (by omega), e0, e1, e2, if_pos (by omega), if_pos (by omega), if_pos (by omega), if_pos (by omega), Int.toNat_natCast, w64_of (by omega), show k + 1 - (d + 1) - 1 = k - d - 1 by omega]
    exact he
theorem shift_l0 (s : List Int) (hs : G16 s) (d : Nat) : ∀ (k c : Nat) (x5 : List Int), G16 x5 → c ≤ 4 → 4 - c = d → 6 * d + 10 < k →
    ∃ y, G16 y ∧ spec_l1Shift.l0 k s 1 x5 (c : Int) = some y := by
  induction d with
  | zero =>
    intro k c x5 h5 hc hd hk
    obtain ⟨k, rfl⟩ : ∃ m, k = m + 1 := ⟨k - 1, by omega⟩
    exact ⟨x5, h5, by rw [spec_l1Shift.l0, if_neg (by omega)]⟩
  | succ d ih =>
    intro k c x5 h5 hc hd hk
    obtain ⟨k, rfl⟩ : ∃ m, k = m + 1 := ⟨k - 1, by omega⟩
    obtain ⟨y, hy, he⟩ := shift_l1 s hs c (by omega) 4 k 0 x5 h5 (by omega) rfl (by omega)
    obtain ⟨z, hz, hf⟩ := ih (k - 4 - 1) (c + 1) y hy (by omega) (by omega) (by omega)
    exact ⟨z, hz, by rw [spec_l1Shift.l0, if_pos (by omega)]; exact he.trans hf⟩
theorem shift_some (s : List Int) (hs : G16 s) (k : Nat) (hk : 40 < k) : ∃ y, G16 y ∧ spec_l1Shift.f k s 1 = some y := by
  obtain ⟨y, hy, he⟩ := shift_l0 s hs 4 k 0 (List.replicate 16 0) G16.zeros (by omega) rfl (by omega)
  exact ⟨y, hy, by unfold spec_l1Shift.f; rw [if_pos (by decide)]; exact he⟩
end Go.Proofs.Ytiejallnkgllnaa
namespace Go.Proofs.Ytiejallnkgllnaa
open Go.RowKit Go.Proofs.YtiejallnkgllnaaW.PrintWords Go.Proofs.YtiejallnkgllnaaW.PrintLast Go.Proofs.YtiejallnkgllnaaW.PrintMore Go.Proofs.Ytiejallnkgllnaa.D
open Go.Proofs.Ytiejallnkgllnaa.B (xorL xorL_length)
open Go.Proofs.Ytiejallnkgllnaa.LQ
set_option linter.unusedVariables false
def cutL (l : List Int) (a n : Nat) : List Int := (l.take (a + n)).drop a
theorem cutL_length (l : List Int) (a n : Nat) (h : a + n ≤ l.length) : (cutL l a n).length = n := by simp [cutL]; omega
theorem cutL_bytes {l : List Int} (h : Bytes l) (a n : Nat) : Bytes (cutL l a n) := fun x hx => h x (List.mem_of_mem_take (List.mem_of_mem_drop hx))
theorem bytes_rd {l : List Int} (h : Bytes l) (i : Nat) (hi : i < l.length) : 0 ≤ rd l (i : Int) ∧ rd l (i : Int) ≤ 255 := by
  rw [rd_nth, nth_at _ _ hi]
  exact h _ (List.getElem_mem _)
theorem bytes_some (l : List Int) (h : l.length ≤ 1000000) : spec_l1Bytes.f l = some l := by unfold spec_l1Bytes.f; rw [if_pos (by omega)]
theorem app_bytes {a b : List Int} (ha : Bytes a) (hb : Bytes b) : Bytes (a ++ b) := fun x hx => by rcases List.mem_append.1 hx with h | h; exact ha x h; exact hb x h
theorem words_l0 (d : Nat) : ∀ (k i : Nat) (x3 : List Int) (p : Int), x3.length = 4 * i → Bytes x3 → (0 ≤ p ∧ p ≤ 255) → 4 ≤ i → i ≤ 44 → 44 - i = d → d + 40 < k →
    ∃ y, y.length = 176 ∧ Bytes y ∧ spec_l1Words.l0 k x3 p (i : Int) = some y := by
  induction d with
  | zero =>
    intro k i x3 p hl hb hp h4 hi hd hk
    obtain ⟨k, rfl⟩ : ∃ m, k = m + 1 := ⟨k - 1, by omega⟩
    exact ⟨x3, by omega, hb, by rw [spec_l1Words.l0, if_neg (by omega)]⟩
  | succ d ih =>
    intro k i x3 p hl hb hp h4 hi hd hk
    obtain ⟨k, rfl⟩ : ∃ m, k = m + 1 := ⟨k - 1, by omega⟩
    have e0 : wrap64 (4 * (i : Int)) = ((4 * i : Nat) : Int) := by rw [w64_of (by omega)]; omega
    have e1 : wrap64 (((4 * i : Nat) : Int) - 4) = ((4 * i - 4 : Nat) : Int) := by rw [w64_of (by omega)]; omega
    have e2 : wrap64 (((4 * i : Nat) : Int) - 16) = ((4 * i - 16 : Nat) : Int) := by rw [w64_of (by omega)]; omega
    have e3 : wrap64 (((4 * i : Nat) : Int) - 12) = ((4 * i - 12 : Nat) : Int) := by rw [w64_of (by omega)]; omega
    obtain ⟨t, ht⟩ : ∃ t, t = cutL x3 (4 * i - 4) 4 := ⟨_, rfl⟩
    have htl : t.length = 4 := by rw [ht]; exact cutL_length _ _ _ (by omega)
    have htb : Bytes t := by rw [ht]; exact cutL_bytes hb _ _
    have et : (x3.take (4 * i)).drop (4 * i - 4) = t := by rw [ht]; unfold cutL; rw [show 4 * i - 4 + 4 = 4 * i by omega]
    obtain ⟨u, hu⟩ : ∃ u, u = cutL x3 (4 * i - 16) 4 := ⟨_, rfl⟩
    have hul : u.length = 4 := by rw [hu]; exact cutL_length _ _ _ (by omega)
    have hub : Bytes u := by rw [hu]; exact cutL_bytes hb _ _
    have eu : (x3.take (4 * i - 12)).drop (4 * i - 16) = u := by rw [hu]; unfold cutL; rw [show 4 * i - 16 + 4 = 4 * i - 12 by omega]
    have key : ∀ (v : List Int) (q : Int), v.length = 4 → Bytes v → (0 ≤ q ∧ q ≤ 255) → ∃ y, y.length = 176 ∧ Bytes y ∧
        (if 0 ≤ ((4 * i - 16 : Nat) : Int) then (if ((4 * i - 16 : Nat) : Int) ≤ ((4 * i - 12 : Nat) : Int) then (if ((4 * i - 12 : Nat) : Int) ≤ (x3.length : Int) then ((spec_l1Xor.f k ((x3.take (((4 * i - 12 : Nat) : Int)).toNat).drop (((4 * i - 16 : Nat) : Int)).toNat) v).bind fun t371 => (if x3.length + t371.length < 140737488355328 then (spec_l1Words.l0 k (x3 ++ t371) q (wrap64 ((i : Int) + 1))) else (none))) else (none)) else (none)) else (none)) = some y := by
      intro v q hv hvb hq
      have hxl : (xorL u v).length = 4 := by rw [xorL_length _ _ (by omega), hul]
      obtain ⟨y, h1, h2, h3⟩ := ih k (i + 1) (x3 ++ xorL u v) q (by rw [List.length_append, hxl]; omega) (app_bytes hb (xorL_bytes _ _ hub hvb)) hq (by omega) (by omega) (by omega) (by omega)
      refine ⟨y, h1, h2, ?_⟩
      rw [if_pos (by omega), if_pos (by omega), if_pos (by omega), Int.toNat_natCast, Int.toNat_natCast, eu, B.spec_xor_eq u v (by omega) (by omega) k (by omega), Option.bind_some, if_pos (by omega), w64_of (by omega)]
      exact h3
    rw [spec_l1Words.l0, if_pos (by omega), e0, e1, e2, e3, if_pos (by omega), if_pos (by omega), if_pos (by omega), Int.toNat_natCast, Int.toNat_natCast, et, bytes_some t (by omega), Option.bind_some]
    by_cases hm : Int.tmod (i : Int) 4 = 0
    · obtain ⟨a1, h1, b1⟩ := sub_some (rd t 1) (bytes_rd htb 1 (by omega)) k (by omega)
      obtain ⟨a2, h2, b2⟩ := sub_some (rd t 2) (bytes_rd htb 2 (by omega)) k (by omega)
      obtain ⟨a3, h3, b3⟩ := sub_some (rd t 3) (bytes_rd htb 3 (by omega)) k (by omega)
      obtain ⟨a0, h0, b0⟩ := sub_some (rd t 0) (bytes_rd htb 0 (by omega)) k (by omega)
      obtain ⟨q, hq, hqb⟩ := mul_some p 2 hp (by omega) k (by omega)
      rw [if_pos hm, if_pos (by omega), h1, Option.bind_some, if_pos (by omega), h2, Option.bind_some, if_pos (by omega), h3, Option.bind_some, if_pos (by omega), h0, Option.bind_some, hq, Option.bind_some]
      exact key _ q rfl (fun x hx => by
        rcases List.mem_cons.1 hx with rfl | hx
        · exact xor_byte _ _ b1 hp
        · rcases List.mem_cons.1 hx with rfl | hx
          · exact b2
          · rcases List.mem_cons.1 hx with rfl | hx
            · exact b3
            · rw [List.mem_singleton.1 hx]; exact b0) hqb
    · rw [if_neg hm]
      exact key t p htl htb hp
theorem words_some (l : List Int) (h : G16 l) (k : Nat) (hk : 100 < k) : ∃ y, y.length = 176 ∧ Bytes y ∧ spec_l1Words.f k l = some y := by
  obtain ⟨y, h1, h2, h3⟩ := words_l0 40 k 4 l 1 h.1 h.2 (by omega) (by omega) (by omega) rfl (by omega)
  have hl := h.1
  exact ⟨y, h1, h2, by unfold spec_l1Words.f; rw [bytes_some l (by omega), Option.bind_some]; exact h3⟩
theorem xor16 (a b : List Int) (ha : G16 a) (hb : G16 b) (k : Nat) (hk : 16 < k) : spec_l1Xor.f k a b = some (xorL a b) ∧ G16 (xorL a b) := by
  have h1 := ha.1
  have h2 := hb.1
  exact ⟨B.spec_xor_eq a b (by omega) (by omega) k (by omega), by rw [xorL_length _ _ (by omega)]; exact h1, xorL_bytes _ _ ha.2 hb.2⟩
theorem aes_l1 (W : List Int) (hW : W.length = 176) (hb : Bytes W) (r : Nat) (h1 : 1 ≤ r) (hr : r ≤ 10) (d : Nat) : ∀ (k i : Nat) (s : List Int), G16 s → i ≤ 16 → 16 - i = d → d + 150 < k →
    ∃ y, G16 y ∧ spec_Aes.l1 k W s (r : Int) 16 (i : Int) = spec_Aes.l0 (k - d - 1) W y ((r + 1 : Nat) : Int) := by
  induction d with
  | zero =>
    intro k i s hs hi hd hk
    obtain ⟨k, rfl⟩ : ∃ m, k = m + 1 := ⟨k - 1, by omega⟩
    obtain rfl : i = 16 := by omega
    have e0 : wrap64 (16 * (r : Int)) = ((16 * r : Nat) : Int) := by rw [w64_of (by omega)]; omega
    have e1 : wrap64 (((16 * r : Nat) : Int) + 16) = ((16 * r + 16 : Nat) : Int) := by rw [w64_of (by omega)]; omega
    have e2 : (W.take (16 * r + 16)).drop (16 * r) = cutL W (16 * r) 16 := rfl
    have hc : G16 (cutL W (16 * r) 16) := ⟨cutL_length _ _ _ (by omega), cutL_bytes hb _ _⟩
    obtain ⟨t, ht, he⟩ := shift_some s hs k (by omega)
    rw [spec_Aes.l1, if_neg (by omega), he, Option.bind_some]
    by_cases h9 : (r : Int) < 10
    · obtain ⟨u, hu, hf⟩ := mix_some t ht k (by omega)
      obtain ⟨x1, x2⟩ := xor16 u _ hu hc k (by omega)
      refine ⟨_, x2, ?_⟩
      rw [if_pos h9, hf, Option.bind_some, e0, e1, if_pos (by omega), if_pos (by omega), if_pos (by omega), Int.toNat_natCast, Int.toNat_natCast, e2, x1, Option.bind_some, w64_of (by omega)]
      rfl
    · obtain ⟨x1, x2⟩ := xor16 t _ ht hc k (by omega)
      refine ⟨_, x2, ?_⟩
      rw [if_neg h9, e0, e1, if_pos (by omega), if_pos (by omega), if_pos (by omega), Int.toNat_natCast, Int.toNat_natCast, e2, x1, Option.bind_some, w64_of (by omega)]
      rfl
  | succ d ih =>
    intro k i s hs hi hd hk
    obtain ⟨k, rfl⟩ : ∃ m, k = m + 1 := ⟨k - 1, by omega⟩
    have hsl := hs.1
    obtain ⟨t, ht, htb⟩ := sub_some (rd s (i : Int)) (hs.rd i (by omega)) k (by omega)
    obtain ⟨y, hy, he⟩ := ih k (i + 1) (s.set i t) (hs.set i t htb) (by omega) (by omega) (by omega)
    refine ⟨y, hy, ?_⟩
    rw [spec_Aes.l1, if_pos (by omega), if_pos (by omega), if_pos (by omega), ht, Option.bind_some, Int.toNat_natCast, w64_of (by omega), show k + 1 - (d + 1) - 1 = k - d - 1 by omega]
    exact he
theorem aes_l0 (W : List Int) (hW : W.length = 176) (hb : Bytes W) (d : Nat) : ∀ (k r : Nat) (s : List Int), G16 s → 1 ≤ r → r ≤ 11 → 11 - r = d → 18 * d + 200 < k →
    ∃ y, G16 y ∧ spec_Aes.l0 k W s (r : Int) = some y := by
  induction d with
  | zero =>
    intro k r s hs h1 hr hd hk
    obtain ⟨k, rfl⟩ : ∃ m, k = m + 1 := ⟨k - 1, by omega⟩
    exact ⟨s, hs, by rw [spec_Aes.l0, if_neg (by omega)]⟩
  | succ d ih =>
    intro k r s hs h1 hr hd hk
    obtain ⟨k, rfl⟩ : ∃ m, k = m + 1 := ⟨k - 1, by omega⟩
    obtain ⟨y, hy, he⟩ := aes_l1 W hW hb r h1 (by omega) 16 k 0 s hs (by omega) rfl (by omega)
    obtain ⟨z, hz, hf⟩ := ih (k - 16 - 1) (r + 1) y hy (by omega) (by omega) (by omega) (by omega)
    refine ⟨z, hz, ?_⟩
    rw [spec_Aes.l0, if_pos (by omega), show (s.length : Int) = 16 by have := hs.1; omega]
    exact he.trans hf
theorem aes_some (key block : List Int) (h0 : G16 key) (h1 : G16 block) (k : Nat) (hk : 500 < k) : ∃ y, G16 y ∧ spec_Aes.f k key block false = some y := by
  obtain ⟨k, rfl⟩ : ∃ m, k = m + 1 := ⟨k - 1, by omega⟩
  obtain ⟨W, w1, w2, w3⟩ := words_some key h0 k (by omega)
  have hc : G16 (W.take 16) := ⟨by simp; omega, fun x hx => w2 x (List.mem_of_mem_take hx)⟩
  obtain ⟨x1, x2⟩ := xor16 block _ h1 hc k (by omega)
  obtain ⟨y, hy, he⟩ := aes_l0 W w1 w2 10 k 1 _ x2 (by omega) (by omega) rfl (by omega)
  refine ⟨y, hy, ?_⟩
  have a0 := h0.1
  have a1 := h1.1
  unfold spec_Aes.f
  rw [if_pos (by omega), spec_Aes.j0, if_neg (by simp; omega), w3, Option.bind_some, if_neg (by decide), if_pos (by omega), x1, Option.bind_some]
  exact he
end Go.Proofs.Ytiejallnkgllnaa
namespace Go.Proofs.Ytiejallnkgllnaa
open Go.RowKit Go.Proofs.YtiejallnkgllnaaW.PrintWords Go.Proofs.YtiejallnkgllnaaW.PrintLast Go.Proofs.YtiejallnkgllnaaW.PrintMore Go.Proofs.Ytiejallnkgllnaa.D
open Go.Proofs.Ytiejallnkgllnaa.B (xorL xorL_length)
open Go.Proofs.Ytiejallnkgllnaa.LQ
set_option linter.unusedVariables false
theorem double_some (l : List Int) (h : G16 l) (k : Nat) (hk : 300 < k) : ∃ y, G16 y ∧ spec_l2Double.f k l = some y := by
  have hl := h.1
  have hbl : (bitsOf l).length = 128 := by rw [bitsOf_length, hl]
  have hbb : Bits (bitsOf l) := bitsOf_bits l
  obtain ⟨bs, hbs⟩ : ∃ bs, bs = bitsOf l := ⟨_, rfl⟩
  rw [← hbs] at hbl hbb
  have hdl : (bs.drop 1 ++ [0]).length = 8 * 16 := by simp; omega
  have hdb : Bits (bs.drop 1 ++ [0]) := (hbb.drop 1).append (fun x hx => by rw [List.mem_singleton.1 hx]; exact Or.inl rfl)
  obtain ⟨u, hu⟩ : ∃ u, u = unbits (bs.drop 1 ++ [0]) := ⟨_, rfl⟩
  have hug : G16 u := ⟨by rw [hu]; exact unbits_length 16 _ hdl, by rw [hu]; exact unbits_bytes 16 _ hdl hdb⟩
  have hul := hug.1
  have e : ∀ {q}, q = (if rd bs 0 = 1 then (if 15 < (u.length : Int) then (some (u.set (15 : Int).toNat (Go.bits .xor .u8 (rd u 15) 135))) else (none)) else (some u)) → ∃ y, G16 y ∧ q = some y := by
    intro q hq
    by_cases h1 : rd bs 0 = 1
    · refine ⟨_, hug.set 15 _ (xor_byte (rd u 15) 135 (hug.rd 15 (by omega)) (by omega)), ?_⟩
      rw [hq, if_pos h1, if_pos (by omega)]
      rfl
    · exact ⟨u, hug, by rw [hq, if_neg h1]⟩
  apply e
  unfold spec_l2Double.f
  rw [B.spec_bits_eq l (by omega) h.2 k (by omega), Option.bind_some, ← hbs, if_pos (by omega), bytes_some _ (by simp; omega), Option.bind_some, if_pos (by simp; omega), B.spec_unbits_eq _ 16 hdl (by omega) hdb k (by omega), Option.bind_some, ← hu, if_pos (by omega)]
theorem cmac_l1 (key X : List Int) (h0 : G16 key) (n : Nat) (hX : X.length = 16 * n) (hn : n ≤ 100) (hb : Bytes X) (d : Nat) : ∀ (k j : Nat) (s : List Int), G16 s → j ≤ n → n - j = d → d + 600 < k →
    ∃ y, G16 y ∧ spec_Cmac.l1 k key X s ((16 * j : Nat) : Int) = some y := by
  induction d with
  | zero =>
    intro k j s hs hj hd hk
    obtain ⟨k, rfl⟩ : ∃ m, k = m + 1 := ⟨k - 1, by omega⟩
    obtain rfl : j = n := by omega
    exact ⟨s, hs, by rw [spec_Cmac.l1, if_neg (by omega)]⟩
  | succ d ih =>
    intro k j s hs hj hd hk
    obtain ⟨k, rfl⟩ : ∃ m, k = m + 1 := ⟨k - 1, by omega⟩
    have e1 : wrap64 (((16 * j : Nat) : Int) + 16) = ((16 * j + 16 : Nat) : Int) := by rw [w64_of (by omega)]; omega
    have e2 : (X.take (16 * j + 16)).drop (16 * j) = cutL X (16 * j) 16 := rfl
    have hc : G16 (cutL X (16 * j) 16) := ⟨cutL_length _ _ _ (by omega), cutL_bytes hb _ _⟩
    obtain ⟨x1, x2⟩ := xor16 s _ hs hc k (by omega)
    obtain ⟨t, ht, he⟩ := aes_some key _ h0 x2 k (by omega)
    obtain ⟨y, hy, hf⟩ := ih k (j + 1) t ht (by omega) (by omega) (by omega)
    refine ⟨y, hy, ?_⟩
    rw [spec_Cmac.l1, if_pos (by omega), if_pos (by omega), e1, if_pos (by omega), if_pos (by omega), Int.toNat_natCast, Int.toNat_natCast, e2, x1, Option.bind_some, he, Option.bind_some]
    exact hf
theorem cmac_j3 (key X m : List Int) (h0 : G16 key) (n : Nat) (hX : X.length = 16 * n) (h1 : 1 ≤ n) (hn : n ≤ 100) (hb : Bytes X) (hm : G16 m) (k : Nat) (hk : 800 < k) : ∃ y, G16 y ∧ spec_Cmac.j3 k key X m = some y := by
  obtain ⟨k, rfl⟩ : ∃ m, k = m + 1 := ⟨k - 1, by omega⟩
  have e1 : wrap64 ((X.length : Int) - 16) = ((16 * n - 16 : Nat) : Int) := by rw [w64_of (by omega)]; omega
  have hd : G16 (X.drop (16 * n - 16)) := ⟨by simp; omega, fun x hx => hb x (List.mem_of_mem_drop hx)⟩
  have ht : Bytes (X.take (16 * n - 16)) := fun x hx => hb x (List.mem_of_mem_take hx)
  have htl : (X.take (16 * n - 16)).length = 16 * n - 16 := by simp; omega
  obtain ⟨x1, x2⟩ := xor16 _ m hd hm k (by omega)
  have xl := x2.1
  obtain ⟨y, hy, he⟩ := cmac_l1 key (X.take (16 * n - 16) ++ xorL (X.drop (16 * n - 16)) m) h0 n (by rw [List.length_append, htl, xl]; omega) hn (app_bytes ht x2.2) n k 0 (List.replicate 16 0) G16.zeros (by omega) (by omega) (by omega)
  refine ⟨y, hy, ?_⟩
  rw [spec_Cmac.j3, e1, if_pos (by omega), if_pos (by omega), Int.toNat_natCast, bytes_some _ (by omega), Option.bind_some, x1, Option.bind_some, if_pos (by omega), if_pos (by decide)]
  exact he
theorem cmac_l0 (key m : List Int) (h0 : G16 key) (hm : G16 m) (d : Nat) : ∀ (k : Nat) (X : List Int), 1 ≤ X.length → X.length + d ≤ 1100 → Bytes X → (16 - X.length % 16) % 16 = d → d + 1000 < k → ∃ y, G16 y ∧ spec_Cmac.l0 k key X m = some y := by
  induction d with
  | zero =>
    intro k X h1 h2 hb hd hk
    obtain ⟨k, rfl⟩ : ∃ m, k = m + 1 := ⟨k - 1, by omega⟩
    obtain ⟨y, hy, he⟩ := cmac_j3 key X m h0 (X.length / 16) (by omega) (by omega) (by omega) hb hm k (by omega)
    exact ⟨y, hy, by rw [spec_Cmac.l0, if_pos (by omega)]; exact he⟩
  | succ d ih =>
    intro k X h1 h2 hb hd hk
    obtain ⟨k, rfl⟩ : ∃ m, k = m + 1 := ⟨k - 1, by omega⟩
    obtain ⟨y, hy, he⟩ := ih k (X ++ [0]) (by simp) (by simp; omega) (app_bytes hb (fun x hx => by rw [List.mem_singleton.1 hx]; omega)) (by simp; omega) (by omega)
    exact ⟨y, hy, by rw [spec_Cmac.l0, if_neg (by omega), if_pos (by omega)]; exact he⟩
theorem cmac_some (key data : List Int) (h0 : G16 key) (hb : Bytes data) (hl : data.length ≤ 1000) (k : Nat) (hk : 1100 < k) : ∃ y, G16 y ∧ spec_Cmac.f k key data = some y := by
  have a0 := h0.1
  obtain ⟨k, rfl⟩ : ∃ m, k = m + 1 + 1 := ⟨k - 2, by omega⟩
  obtain ⟨a, ha, ea⟩ := aes_some key _ h0 G16.zeros (k + 1) (by omega)
  obtain ⟨k1, hk1, ek1⟩ := double_some a ha (k + 1) (by omega)
  obtain ⟨k2, hk2, ek2⟩ := double_some k1 hk1 k (by omega)
  have pad : ∃ y, G16 y ∧ spec_Cmac.j1 (k + 1) key k1 data k1 true = some y := by
    obtain ⟨y, hy, he⟩ := cmac_l0 key k2 h0 hk2 ((16 - (data ++ [128]).length % 16) % 16) k (data ++ [128]) (by simp) (by simp; omega) (app_bytes hb (fun x hx => by rw [List.mem_singleton.1 hx]; omega)) rfl (by omega)
    exact ⟨y, hy, by rw [spec_Cmac.j1, if_pos rfl, ek2, Option.bind_some, if_pos (by omega)]; exact he⟩
  have all : ∃ y, G16 y ∧ (if (data.length : Int) = 0 then (spec_Cmac.j1 (k + 1) key k1 data k1 true) else (spec_Cmac.j1 (k + 1) key k1 data k1 (((data.length : Int) % 16) != 0))) = some y := by
    by_cases hz : (data.length : Int) = 0
    · rw [if_pos hz]; exact pad
    · rw [if_neg hz]
      by_cases hm : data.length % 16 = 0
      · obtain ⟨y, hy, he⟩ := cmac_j3 key data k1 h0 (data.length / 16) (by omega) (by omega) (by omega) hb hk1 k (by omega)
        refine ⟨y, hy, ?_⟩
        rw [show (((data.length : Int) % 16) != 0) = false by simp; omega, spec_Cmac.j1, if_neg (by decide)]
        exact he
      · rw [show (((data.length : Int) % 16) != 0) = true by simp; omega]
        exact pad
  obtain ⟨y, hy, he⟩ := all
  refine ⟨y, hy, ?_⟩
  unfold spec_Cmac.f
  rw [if_pos (by omega), spec_Cmac.j0, if_neg (by simp; omega), if_pos (by decide), ea, Option.bind_some, ek1, Option.bind_some, bytes_some data (by omega), Option.bind_some]
  exact he
end Go.Proofs.Ytiejallnkgllnaa
namespace Go.Proofs.Ytiejallnkgllnaa.LQ
open Go.RowKit Go.Proofs.YtiejallnkgllnaaW.PrintWords Go.Proofs.YtiejallnkgllnaaW.PrintLast Go.Proofs.YtiejallnkgllnaaW.PrintMore
attribute [local go_sem] max2_int min2_int max_two min_two max_three min_three max_four min_four   -- for this text's walks alone
set_option linter.unusedVariables false
set_option linter.unusedSimpArgs false

def laws_cut.l0 : Nat → List Int → Int → List Int → Int → Int → Option (List Int)
  | 0, _, _, _, _, _ => none
  | k + 1, x0, x1, x7, x12, x13 => if x13 < x12 then (if (wrap64 (x1 + x13)) < (x0.length : Int) then (if 0 ≤ (wrap64 (x1 + x13)) then (if 0 ≤ x13 then (if x13 < (x7.length : Int) then (laws_cut.l0 k x0 x1 (x7.set (x13 : Int).toNat (rd x0 (wrap64 (x1 + x13)))) x12 (wrap64 (x13 + 1))) else (none)) else (none)) else (none)) else (laws_cut.l0 k x0 x1 x7 x12 (wrap64 (x13 + 1)))) else (some x7)
def laws_cut.f (k : Nat) (l0 : List Int) (a1 : Int) (a2 : Int) : Option (List Int) := if 0 ≤ a2 then (if (a2 : Int).toNat ≤ 281474976710656 then ((some (List.replicate (a2 : Int).toNat 0 : List Int)).bind fun y514 => (laws_cut.l0 k l0 a1 y514 (y514.length : Int) 0)) else (none)) else (none)
set_option maxHeartbeats 8000000 in
set_option maxRecDepth 100000 in
theorem laws_cut.calls (k : Nat) (A0 : Option Addr) (c0 : Nat) (l0 : List Int) (a1 : Int) (a2 : Int) (r : List Int) (w : World) (hr0 : Kd.C (Kd.int .u8) w A0 l0.length l0) (hc0 : l0.length ≤ c0) (h : laws_cut.f k l0 a1 a2 = some r) :
    Calls Try.prog 33 #[.slice A0 l0.length c0, .int .i64 a1, .int .i64 a2] w fun e w' => ∃ v0_ : Value, e = .returned (v0_) ∧ Kd.R (Kd.int .u8) 5 w' w.heap.size (fun _ => True) v0_ r ∧ Below w.heap.size w w' := by
  have HR0 := Aside0.mk hr0
  have HC0 := Aside0.mk hc0
  clear hr0 hc0
  have HB := Aside0.mk (Below.refl w.heap.size w)
  have H : (if 0 ≤ a2 then (if (a2 : Int).toNat ≤ 281474976710656 then ((some (List.replicate (a2 : Int).toNat 0 : List Int)).bind fun y514 => (laws_cut.l0 k l0 a1 y514 (y514.length : Int) 0)) else (none)) else (none)) = some r := h
  clear h
  by_cases c4 : 0 ≤ a2
  · rw [if_pos c4] at H
    have c4b0 := eq_true c4
    have c4b1 : decide (0 ≤ a2) = true := decide_eq_true c4
    clear c4
    by_cases c5 : (a2 : Int).toNat ≤ 281474976710656
    · rw [if_pos c5] at H
      have c5b0 := eq_true c5
      have c5b1 : decide ((a2 : Int).toNat ≤ 281474976710656) = true := decide_eq_true c5
      clear c5
      obtain ⟨y514, hy514⟩ : ∃ y_ : List Int, y_ = (List.replicate (a2 : Int).toNat 0) := ⟨_, rfl⟩
      replace H : (laws_cut.l0 k l0 a1 y514 (y514.length : Int) 0) = some r := by first | (rw [hy514]; with_reducible exact H) | (have H2_ := (Option.bind_some _ _).symm.trans H; rw [hy514]; with_reducible exact H2_) | (have H2_ := (Option.bind_some _ _).symm.trans H; with_reducible exact H2_) | with_reducible exact H | (rw [hy514]; exact H) | exact H
      have Ny514 := Aside0.mk hy514
      clear hy514
      have H' := Aside0.mk H
      clear H
      go_enter Try.func33, Try.ntmps33
      go_wp2_with (first | ((with_reducible refine gate_dst (N := 10) rfl ?_); refine Kd.R_make (Kd.int .u8) _ 5 rfl (N := 10) rfl 29 _ _ rfl a2 rfl rfl Try.underlying29 (.int .u8 0) 1 info5 rfl (by decide) (by omega) 0 (ok := fun _ => True) (okp := fun _ => True) rfl (fun _ hk => hk) trivial (of_decide_eq_true (by first | (with_reducible assumption) | assumption)) (Nat.le_trans (Nat.mul_le_mul_right _ (of_decide_eq_true (by first | (with_reducible assumption) | assumption) : a2.toNat ≤ 281474976710656)) (by omega)) (Below.refl _ _) (Nat.le_refl _) ?_; intro v515 w6 ho7 hb hg_ hnew_; clear hg_ hnew_; (first | rw [← Ny514.out] at ho7 | (simp only [Int.reduceToNat] at ho7; rw [← Ny514.out] at ho7)); have n0_ := Aside0.mk (Kd.R_lower ho7 (below_size (by repeat (first | (with_reducible first | exact HB.out | apply below_alloc | apply pw_below_drewN | apply below_drew1) | exact HB.out)))); have n1_ := Aside0.mk (below_step (by repeat (first | (with_reducible first | exact HB.out | apply below_alloc | apply pw_below_drewN | apply below_drew1) | exact HB.out)) hb); clear HB; have HO516 := n0_; have HB := n1_; clear n0_ n1_; clear hb ho7; obtain ⟨Ao8, co8, eo8⟩ := Kd.R_slice HO516.out; subst eo8))
      go_loopg [13] k (fun kq v13 w' => ∃ (x7_1 : List Int) (x13_1 : Int), v13 = .int .i64 x13_1 ∧ Aside0 (laws_cut.l0 kq l0 a1 x7_1 (y514.length : Int) x13_1 = some r) ∧ Aside0 (kq ≤ k) ∧ Aside0 (Kd.R (Kd.int .u8) 5 w' w.heap.size (fun _ => True) (.slice Ao8 y514.length co8) x7_1) ∧ Aside0 (Below w.heap.size w w'))
      case atStart => exact ⟨(y514), (0), (by first | rfl | (simp; done) | (simp [*]; done)), H', ⟨Nat.le_refl _⟩, ⟨by (with_reducible repeat (first | apply Kd.R_alloc | apply Kd.R_drewN | apply Kd.R_drew)); exact HO516.out⟩, ⟨by repeat (first | (with_reducible first | exact HB.out | apply below_alloc | apply pw_below_drewN | apply below_drew1) | exact HB.out)⟩⟩
      case round =>
        clear H'
        try clear p2
        try clear c3
        try clear c4
        try clear c4b0
        try clear c4b1
        try clear c5
        try clear c5b0
        try clear c5b1
        obtain ⟨x7_1, x13_1, rfl, HA, HK1, HO_7, HB⟩ := hrel
        have hl7_1 := (Kd.R_reads' HO_7.out).1
        rw [hl7_1] at HO_7
        (try simp only [hl7_1])
        cases gk with
        | zero => exact absurd HA.out (by simp [laws_cut.l0])
        | succ k1 =>
          have H := HA.out
          clear HA
          simp only [laws_cut.l0] at H
          by_cases c9 : x13_1 < (y514.length : Int)
          · rw [if_pos c9] at H
            have c9b0 : decide (x13_1 < (y514.length : Int)) = true := decide_eq_true c9
            clear c9
            by_cases c10 : (wrap64 (a1 + x13_1)) < (l0.length : Int)
            · rw [if_pos c10] at H
              have c10b0 : decide ((wrap64 (a1 + x13_1)) < (l0.length : Int)) = true := decide_eq_true c10
              clear c10
              obtain ⟨ji11, hji11⟩ : ∃ j_ : Int, (wrap64 (a1 + x13_1)) = j_ := ⟨_, rfl⟩
              replace H : (if 0 ≤ (ji11) then (if 0 ≤ x13_1 then (if x13_1 < (x7_1.length : Int) then (laws_cut.l0 k1 l0 a1 (x7_1.set (x13_1 : Int).toNat (rd l0 (ji11))) (y514.length : Int) (wrap64 (x13_1 + 1))) else (none)) else (none)) else (none)) = some r := by first | (rw [hji11] at H; exact H) | (simp only [hji11] at H ⊢; exact H)
              (try rw [hji11] at c10b0)
              have hji11w : (IntKind.i64.wrap (a1 + x13_1)) = ji11 := (i64_w _).trans hji11
              by_cases c12 : 0 ≤ (ji11)
              · rw [if_pos c12] at H
                have c12b0 : decide (0 ≤ (ji11)) = true := decide_eq_true c12
                clear c12
                by_cases c13 : 0 ≤ x13_1
                · rw [if_pos c13] at H
                  have c13b0 : decide (0 ≤ x13_1) = true := decide_eq_true c13
                  clear c13
                  by_cases c14 : x13_1 < (x7_1.length : Int)
                  · rw [if_pos c14] at H
                    have c14b0 : decide (x13_1 < (x7_1.length : Int)) = true := decide_eq_true c14
                    clear c14
                    obtain ⟨y518, hy518⟩ : ∃ y_ : List Int, y_ = (x7_1.set (x13_1 : Int).toNat (rd l0 (ji11))) := ⟨_, rfl⟩
                    replace H : (laws_cut.l0 k1 l0 a1 y518 (y514.length : Int) (wrap64 (x13_1 + 1))) = some r := by first | (rw [hy518]; with_reducible exact H) | (have H2_ := (Option.bind_some _ _).symm.trans H; rw [hy518]; with_reducible exact H2_) | (have H2_ := (Option.bind_some _ _).symm.trans H; with_reducible exact H2_) | with_reducible exact H | (rw [hy518]; exact H) | exact H
                    have Ny518 := Aside0.mk hy518
                    clear hy518
                    have H' := Aside0.mk H
                    clear H
                    have p517 : 0 ≤ ((ji11) : Int) := of_decide_eq_true (by first | (with_reducible assumption) | assumption)
                    have q517 : (ji11) < (l0.length : Int) := of_decide_eq_true (by first | (with_reducible assumption) | assumption)
                    obtain ⟨ad517, e517, hx517_0⟩ := Kd.at_int HR0.out (ji11) p517 q517
                    cases e517
                    replace hx517_0 := (HB.out.cell (World.block_lt_of_cell? w _ hx517_0)).trans hx517_0
                    replace p517 := eq_true p517
                    replace q517 := eq_true q517
                    have p15 : 0 ≤ (x13_1 : Int) := of_decide_eq_true (by first | (with_reducible assumption) | assumption)
                    have q15 : (x13_1 : Int) < ((x7_1.length : Int) : Int) := of_decide_eq_true (by first | (with_reducible assumption) | assumption)
                    obtain ⟨go15, co15, eo15, gb15, gl15, cl15, HG15⟩ := Kd.R_form HO_7.out (by omega)
                    (first | cases eo15 | (injection eo15 with ea_ en_ ec_; (first | subst ea_ | (injection ea_ with ea_; subst ea_)); subst ec_; clear en_))
                    have GB15 := Aside0.mk gb15
                    have GG15 := Aside0.mk HG15
                    clear gb15 gl15 HG15
                    obtain ⟨hx15_0, hf15_0⟩ := Kd.R_celln 0 HO_7.out (x13_1 : Int) p15 q15
                    replace p15 := eq_true p15
                    replace q15 := eq_true q15
                    have HP16 := Kd.R_putg HO_7.out (x13_1 : Int) (rd l0 (ji11))
                    go_wp2_with (first | ((with_reducible refine gate_store (t := 5) (p := 30) rfl ?_); refine store_event (t := 5) (p := 30) (v := ?vo_w17) (w1 := (wr.setCell ⟨go15, (x13_1 : Int).toNat, none⟩ (.int .u8 (rd l0 (ji11))))) ?hg ?ho ?hn ?hr ?_; (case ho => rfl); (case hg => rfl); (case hn => rfl); (case hr => first | (go_simp; done) | (go_simp; rfl)); intro w17 hw; have hg : wr.grownBy w17 (some go15) := (by rw [hw]; exact HP16.2); have hp_ : Kd.R (Kd.int .u8) 5 w17 w.heap.size (fun _ => True) (.slice (some ⟨go15, 0, none⟩) x7_1.length co8) y518 := (by rw [hw, Ny518.out]; exact HP16.1); clear HP16; have n0_ := Aside0.mk (hp_); have n1_ := Aside0.mk ((by rw [hw]; exact below_set (HB.out) GB15.out : Below w.heap.size w w17)); clear HO_7; clear HB; have HO_7 := n0_; have HB := n1_; clear n0_ n1_; clear hg hw hp_))
                    (try simp only [← hl7_1])
                    go_roundg k1
                    case measure => have := HK1.out; omega
                    case rel => exact ⟨(y518), (wrap64 (x13_1 + 1)), (by first | rfl | (simp; done) | (simp [*]; done)), H', ⟨by have := HK1.out; omega⟩, ⟨by (try simp only [hl7_1]); (with_reducible repeat (first | apply Kd.R_alloc | apply Kd.R_drewN | apply Kd.R_drew)); exact HO_7.out⟩, ⟨by repeat (first | (with_reducible first | exact HB.out | apply below_alloc | apply pw_below_drewN | apply below_drew1) | exact HB.out)⟩⟩
                  · rw [if_neg c14] at H
                    exact absurd H (by simp)
                · rw [if_neg c13] at H
                  exact absurd H (by simp)
              · rw [if_neg c12] at H
                exact absurd H (by simp)
            · rw [if_neg c10] at H
              have c10b0 : decide ((wrap64 (a1 + x13_1)) < (l0.length : Int)) = false := decide_eq_false c10
              clear c10
              have H' := Aside0.mk H
              clear H
              have cx_ : decide (x13_1 < (x7_1.length : Int)) = true := by first | (rw [hl7_1]; exact c9b0) | (rw [← hl7_1]; exact c9b0) | (simp only [hl7_1]; exact c9b0)
              go_wp2
              (try simp only [← hl7_1])
              go_roundg k1
              case measure => have := HK1.out; omega
              case rel => exact ⟨(x7_1), (wrap64 (x13_1 + 1)), (by first | rfl | (simp; done) | (simp [*]; done)), H', ⟨by have := HK1.out; omega⟩, ⟨by (try simp only [hl7_1]); (with_reducible repeat (first | apply Kd.R_alloc | apply Kd.R_drewN | apply Kd.R_drew)); exact HO_7.out⟩, ⟨by repeat (first | (with_reducible first | exact HB.out | apply below_alloc | apply pw_below_drewN | apply below_drew1) | exact HB.out)⟩⟩
          · rw [if_neg c9] at H
            have c9b0 : decide (x13_1 < (y514.length : Int)) = false := decide_eq_false c9
            clear c9
            obtain rfl := Option.some.inj H
            have cx_ : decide (x13_1 < (x7_1.length : Int)) = false := by first | (rw [hl7_1]; exact c9b0) | (rw [← hl7_1]; exact c9b0) | (simp only [hl7_1]; exact c9b0)
            go_wp2
            go_ret
            exact ⟨_, by first | rfl | (simp [errW_none, errW_some] <;> rfl) | (simp [*, errW_none, errW_some] <;> rfl), by (with_reducible repeat (first | apply Kd.R_alloc | apply Kd.R_drewN | apply Kd.R_drew)); exact HO_7.out, by repeat (first | (with_reducible first | exact HB.out | apply below_alloc | apply pw_below_drewN | apply below_drew1) | exact HB.out)⟩
    · rw [if_neg c5] at H
      exact absurd H (by simp)
  · rw [if_neg c4] at H
    exact absurd H (by simp)

end Go.Proofs.Ytiejallnkgllnaa.LQ
