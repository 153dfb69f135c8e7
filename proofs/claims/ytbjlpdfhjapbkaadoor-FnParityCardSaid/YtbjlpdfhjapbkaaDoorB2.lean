-- Written by a program of this session (a scratch copy of the print with functions taken as proved): Lean checks it.
import Derived.Test.YtbjlpdfhjapbkaaDoorB0
namespace Go.Proofs.YtbjlpdfhjapbkaaDoor.B
open Go.RowKit Go.Proofs.YtbjlpdfhjapbkaaDoorW.PrintWords Go.Proofs.YtbjlpdfhjapbkaaDoorW.PrintLast Go.Proofs.YtbjlpdfhjapbkaaDoorW.PrintMore
attribute [local go_sem] max2_int min2_int max_two min_two max_three min_three max_four min_four   -- for this text's walks alone
set_option linter.unusedVariables false
set_option linter.unusedSimpArgs false

/-! ### spec_l1IP: function 44 -/
mutual
def spec_l1IP.l0 : Nat → List Int → List Int → Int → Int → Option (List Int)
  | 0, _, _, _, _ => none
  | k + 1, x1, x5, x6, x7 => if x7 < x6 then (if 0 ≤ x7 then (if x7 < (x5.length : Int) then (spec_l1IP.l1 k x1 (rd x5 x7) 0 x5 x6 x7) else (none)) else (none)) else (some x1)
def spec_l1IP.l1 : Nat → List Int → Int → Int → List Int → Int → Int → Option (List Int)
  | 0, _, _, _, _, _, _ => none
  | k + 1, x1, x3, x4, x5, x6, x7 => if x4 < 8 then (if x1.length < 17592186044416 then (spec_l1IP.l1 k (x1 ++ [wrap64 (x3 - (wrap64 (8 * x4)))]) x3 (wrap64 (x4 + 1)) x5 x6 x7) else (none)) else (spec_l1IP.l0 k x1 x5 x6 (wrap64 (x7 + 1)))
end
def spec_l1IP.f (k : Nat)  : Option (List Int) := (some (([58, 60, 62, 64, 57, 59, 61, 63] : List Int) : List Int)).bind fun y220 => (spec_l1IP.l0 k ([] : List Int) y220 (y220.length : Int) 0)
theorem spec_l1IP.mono_l : ∀ k, (∀ y0 y1 y2 y3, LeO (spec_l1IP.l0 k y0 y1 y2 y3) (spec_l1IP.l0 (k + 1) y0 y1 y2 y3)) ∧ (∀ y0 y1 y2 y3 y4 y5, LeO (spec_l1IP.l1 k y0 y1 y2 y3 y4 y5) (spec_l1IP.l1 (k + 1) y0 y1 y2 y3 y4 y5))
  | 0 => ⟨fun _ _ _ _ r h => by simp [spec_l1IP.l0] at h, fun _ _ _ _ _ _ r h => by simp [spec_l1IP.l1] at h⟩
  | k + 1 => by
    obtain ⟨ih0, ih1⟩ := spec_l1IP.mono_l k
    refine ⟨?_, ?_⟩
    · intro y0 y1 y2 y3
      unfold spec_l1IP.l0
      repeat' first
      | (with_reducible exact ih0 _ _ _ _)
      | (with_reducible exact ih1 _ _ _ _ _ _)
      | (with_reducible exact LeO.refl _)
      | (with_reducible exact LeO.none _)
      | (with_reducible refine LeO.ite ?_ ?_)
      | (with_reducible refine LeO.bind ?_ (fun _ => ?_))
      | exact ih0 _ _ _ _
      | exact ih1 _ _ _ _ _ _
      | exact LeO.none _
      | refine LeO.ite ?_ ?_
      | refine LeO.bind ?_ (fun _ => ?_)
    · intro y0 y1 y2 y3 y4 y5
      unfold spec_l1IP.l1
      repeat' first
      | (with_reducible exact ih0 _ _ _ _)
      | (with_reducible exact ih1 _ _ _ _ _ _)
      | (with_reducible exact LeO.refl _)
      | (with_reducible exact LeO.none _)
      | (with_reducible refine LeO.ite ?_ ?_)
      | (with_reducible refine LeO.bind ?_ (fun _ => ?_))
      | exact ih0 _ _ _ _
      | exact ih1 _ _ _ _ _ _
      | exact LeO.none _
      | refine LeO.ite ?_ ?_
      | refine LeO.bind ?_ (fun _ => ?_)
theorem spec_l1IP.mono : ∀ k, LeO (spec_l1IP.f k ) (spec_l1IP.f (k + 1) ) := by
  intro  k
  obtain ⟨ih0, ih1⟩ := spec_l1IP.mono_l k
  unfold spec_l1IP.f
  repeat' first
      | (with_reducible exact ih0 _ _ _ _)
      | (with_reducible exact ih1 _ _ _ _ _ _)
      | (with_reducible exact LeO.refl _)
      | (with_reducible exact LeO.none _)
      | (with_reducible refine LeO.ite ?_ ?_)
      | (with_reducible refine LeO.bind ?_ (fun _ => ?_))
      | exact ih0 _ _ _ _
      | exact ih1 _ _ _ _ _ _
      | exact LeO.none _
      | refine LeO.ite ?_ ?_
      | refine LeO.bind ?_ (fun _ => ?_)
set_option maxHeartbeats 8000000 in
set_option maxRecDepth 100000 in
theorem spec_l1IP.calls (k : Nat)  (r : List Int) (w : World) (h : spec_l1IP.f k  = some r) :
    Calls Tryd.prog 44 #[] w fun e w' => ∃ v0_ : Value, e = .returned (v0_) ∧ Kd.R (Kd.int .i64) 3 w' w.heap.size (fun _ => True) v0_ r ∧ Below w.heap.size w w' := by
  have HB := Aside0.mk (Below.refl w.heap.size w)
  have H : ((some (([58, 60, 62, 64, 57, 59, 61, 63] : List Int) : List Int)).bind fun y220 => (spec_l1IP.l0 k ([] : List Int) y220 (y220.length : Int) 0)) = some r := h
  clear h
  obtain ⟨y220, hy220⟩ : ∃ y_ : List Int, y_ = (([58, 60, 62, 64, 57, 59, 61, 63] : List Int)) := ⟨_, rfl⟩
  replace H : (spec_l1IP.l0 k ([] : List Int) y220 (y220.length : Int) 0) = some r := by first | (rw [hy220]; with_reducible exact H) | (have H2_ := (Option.bind_some _ _).symm.trans H; rw [hy220]; with_reducible exact H2_) | (have H2_ := (Option.bind_some _ _).symm.trans H; with_reducible exact H2_) | with_reducible exact H | (rw [hy220]; exact H) | exact H
  have Ny220 := Aside0.mk hy220
  clear hy220
  have H' := Aside0.mk H
  clear H
  go_enter Tryd.func44, Tryd.ntmps44
  go_wp2_with (first | ((with_reducible refine gate_dst (N := 5) rfl ?_); refine Kd.R_lit (Kd.int .i64) _ 3 ?hg (N := 5) ?hd (xs := ([58, 60, 62, 64, 57, 59, 61, 63] : List Int)) (inner := [.int .i64 58, .int .i64 60, .int .i64 62, .int .i64 64, .int .i64 57, .int .i64 59, .int .i64 61, .int .i64 63]) (ok := fun _ => True) (okp := fun _ => True) ?hr ?hp (fun _ hk => hk) trivial (Below.refl _ _) (Nat.le_refl _) (by simp) ?_; (case hd => rfl); (case hg => rfl); (case hr => first | (go_simp; done) | (go_simp; rfl)); (case hp => exact (Reps.one (show Kd.M (Kd.int .i64) _ _ _ 58 [.int .i64 58] from rfl) (Reps.one (show Kd.M (Kd.int .i64) _ _ _ 60 [.int .i64 60] from rfl) (Reps.one (show Kd.M (Kd.int .i64) _ _ _ 62 [.int .i64 62] from rfl) (Reps.one (show Kd.M (Kd.int .i64) _ _ _ 64 [.int .i64 64] from rfl) (Reps.one (show Kd.M (Kd.int .i64) _ _ _ 57 [.int .i64 57] from rfl) (Reps.one (show Kd.M (Kd.int .i64) _ _ _ 59 [.int .i64 59] from rfl) (Reps.one (show Kd.M (Kd.int .i64) _ _ _ 61 [.int .i64 61] from rfl) (Reps.one (show Kd.M (Kd.int .i64) _ _ _ 63 [.int .i64 63] from rfl) (Reps.none _ _)))))))))); intro v221 w1 ho2 hb hg_ hnew_; clear hg_ hnew_; (first | rw [← Ny220.out] at ho2 | (simp only [Int.reduceToNat] at ho2; rw [← Ny220.out] at ho2)); have n0_ := Aside0.mk (Kd.R_lower ho2 (below_size (by repeat (first | (with_reducible first | exact HB.out | apply below_alloc | apply pw_below_drewN | apply below_drew1) | exact HB.out)))); have n1_ := Aside0.mk (below_step (by repeat (first | (with_reducible first | exact HB.out | apply below_alloc | apply pw_below_drewN | apply below_drew1) | exact HB.out)) hb); clear HB; have HO222 := n0_; have HB := n1_; clear n0_ n1_; clear hb ho2; obtain ⟨Ao3, co3, eo3⟩ := Kd.R_slice HO222.out; subst eo3))
  go_loopg [1, 7] k (fun kq v1 v7 w' => ∃ (x1_1 : List Int) (x7_1 : Int), v7 = .int .i64 x7_1 ∧ Aside0 (spec_l1IP.l0 kq x1_1 y220 (y220.length : Int) x7_1 = some r) ∧ Aside0 (kq ≤ k) ∧ Aside0 (Kd.R (Kd.int .i64) 3 w' w.heap.size (fun k_ => some k_ ≠ ((.slice Ao3 y220.length co3) : Value).ownBlock) v1 x1_1) ∧ Aside0 (Kd.R (Kd.int .i64) 3 w' w.heap.size (fun k_ => some k_ ≠ (v1 : Value).ownBlock) (.slice Ao3 y220.length co3) y220) ∧ Aside0 (Below w.heap.size w w'))
  case atStart => exact ⟨(([] : List Int)), (0), (by first | rfl | (simp; done) | (simp [*]; done)), H', ⟨Nat.le_refl _⟩, ⟨by first | exact Kd.R_nil _ _ _ _ _ | exact Kd.N_nil _ _ _ _ _ | exact Kd.V_nil _ _ _ _ _ | exact Kd.Q_nil _ _ _ _ _ | exact Kd.S_nil _ _ _ _ _⟩, ⟨by (with_reducible repeat (first | apply Kd.R_alloc | apply Kd.R_drewN | apply Kd.R_drew)); exact Kd.R_mono HO222.out (fun _ hk => (by simp [Value.ownBlock]))⟩, ⟨by repeat (first | (with_reducible first | exact HB.out | apply below_alloc | apply pw_below_drewN | apply below_drew1) | exact HB.out)⟩⟩
  case round =>
    clear H'
    try clear p2
    obtain ⟨x1_1, x7_1, rfl, HA, HK1, HO_1, HO_5, HB⟩ := hrel
    cases gk with
    | zero => exact absurd HA.out (by simp [spec_l1IP.l0])
    | succ k1 =>
      have H := HA.out
      clear HA
      simp only [spec_l1IP.l0] at H
      by_cases c4 : x7_1 < (y220.length : Int)
      · rw [if_pos c4] at H
        have c4b0 : decide (x7_1 < (y220.length : Int)) = true := decide_eq_true c4
        clear c4
        by_cases c5 : 0 ≤ x7_1
        · rw [if_pos c5] at H
          have c5b0 : decide (0 ≤ x7_1) = true := decide_eq_true c5
          clear c5
          by_cases c6 : x7_1 < (y220.length : Int)
          · rw [if_pos c6] at H
            have c6b0 : decide (x7_1 < (y220.length : Int)) = true := decide_eq_true c6
            clear c6
            have H' := Aside0.mk H
            clear H
            have p223 : 0 ≤ (x7_1 : Int) := of_decide_eq_true (by first | (with_reducible assumption) | assumption)
            have q223 : x7_1 < (y220.length : Int) := of_decide_eq_true (by first | (with_reducible assumption) | assumption)
            obtain ⟨ad223, e223, hx223_0⟩ := Kd.at_int (Kd.R_reads' HO_5.out).2.2 x7_1 p223 q223
            cases e223
            replace p223 := eq_true p223
            replace q223 := eq_true q223
            go_wp2
            go_loopg [1, 4] k1 (fun kq v1 v4 w' => ∃ (x1_2 : List Int) (x4_2 : Int), v4 = .int .i64 x4_2 ∧ Aside0 (spec_l1IP.l1 kq x1_2 (rd y220 x7_1) x4_2 y220 (y220.length : Int) x7_1 = some r) ∧ Aside0 (kq ≤ k1) ∧ Aside0 (Kd.R (Kd.int .i64) 3 w' w.heap.size (fun k_ => some k_ ≠ ((.slice (some ad223) y220.length co3) : Value).ownBlock) v1 x1_2) ∧ Aside0 (Kd.R (Kd.int .i64) 3 w' w.heap.size (fun k_ => some k_ ≠ (v1 : Value).ownBlock) (.slice (some ad223) y220.length co3) y220) ∧ Aside0 (Below w.heap.size w w'))
            case atStart => exact ⟨(x1_1), (0), (by first | rfl | (simp; done) | (simp [*]; done)), H', ⟨Nat.le_refl _⟩, ⟨by (with_reducible repeat (first | apply Kd.R_alloc | apply Kd.R_drewN | apply Kd.R_drew)); exact HO_1.out⟩, ⟨by (with_reducible repeat (first | apply Kd.R_alloc | apply Kd.R_drewN | apply Kd.R_drew)); exact HO_5.out⟩, ⟨by repeat (first | (with_reducible first | exact HB.out | apply below_alloc | apply pw_below_drewN | apply below_drew1) | exact HB.out)⟩⟩
            case round =>
              clear H'
              try clear p2
              try clear q2
              try clear hx2
              try clear c4
              try clear c4b0
              try clear c5
              try clear c5b0
              try clear c6
              try clear c6b0
              try clear hx223_0
              try clear p2
              try clear p223
              try clear q223
              obtain ⟨x1_2, x4_2, rfl, HA, HK2, HO_1, HO_5, HB⟩ := hrel
              cases gk with
              | zero => exact absurd HA.out (by simp [spec_l1IP.l1])
              | succ k2 =>
                have H := HA.out
                clear HA
                simp only [spec_l1IP.l1] at H
                by_cases c7 : x4_2 < 8
                · rw [if_pos c7] at H
                  have c7b0 : decide (x4_2 < 8) = true := decide_eq_true c7
                  clear c7
                  by_cases c8 : x1_2.length < 17592186044416
                  · rw [if_pos c8] at H
                    have LMc8 := Aside0.mk c8
                    clear c8
                    obtain ⟨y224, hy224⟩ : ∃ y_ : List Int, y_ = (x1_2 ++ [wrap64 ((rd y220 x7_1) - (wrap64 (8 * x4_2)))]) := ⟨_, rfl⟩
                    replace H : (spec_l1IP.l1 k2 y224 (rd y220 x7_1) (wrap64 (x4_2 + 1)) y220 (y220.length : Int) x7_1) = some r := by first | (rw [hy224]; with_reducible exact H) | (have H2_ := (Option.bind_some _ _).symm.trans H; rw [hy224]; with_reducible exact H2_) | (have H2_ := (Option.bind_some _ _).symm.trans H; with_reducible exact H2_) | with_reducible exact H | (rw [hy224]; exact H) | exact H
                    have Ny224 := Aside0.mk hy224
                    clear hy224
                    have H' := Aside0.mk H
                    clear H
                    go_wp2_with (first | ((with_reducible refine gate_builtin (b := .append) (xs := #[.tmp 15, .tmp 20]) rfl ?_); at_builtin; refine Kd.R_append (Kd.int .i64) (w0 := w) w.heap.size rfl (.tmp 15) (.tmp 20) 50 3 (.int .i64 0) 8 rfl Tryd.underlying50 info3 rfl (by decide) (by omega) u1 x1_2 (wrap64 ((rd y220 x7_1) - (wrap64 (8 * x4_2)))) [.int .i64 (wrap64 ((rd y220 x7_1) - (wrap64 (8 * x4_2))))] (fun k_ => some k_ ≠ (.slice (some ad223) y220.length co3 : Value).ownBlock) (fun _ => False) rfl rfl ?aP (fun _ hk => hk.elim) ?aF ?aO ?aB ?aS ?aL ?_; (case aP => exact rfl); (case aB => exact (by repeat (first | (with_reducible first | exact HB.out | apply below_alloc | apply pw_below_drewN | apply below_drew1) | exact HB.out))); (case aF => exact (fun k_ hk => Kd.fresh' (Kd.R_lt (by (with_reducible repeat (first | apply Kd.R_alloc | apply Kd.R_drewN | apply Kd.R_drew)); exact HO_5.out)) k_ hk)); (case aO => exact (by (with_reducible repeat (first | apply Kd.R_alloc | apply Kd.R_drewN | apply Kd.R_drew)); exact HO_1.out)); (case aS => exact (below_size (by repeat (first | (with_reducible first | exact HB.out | apply below_alloc | apply pw_below_drewN | apply below_drew1) | exact HB.out)))); (case aL => have := LMc8.out; omega); intro v225 w9 ho hb hg hat; rw [← Ny224.out] at ho; have n0_ := Aside0.mk (Kd.R_after (ok := (fun _ => True)) (by (with_reducible repeat (first | apply Kd.R_alloc | apply Kd.R_drewN | apply Kd.R_drew)); exact Kd.R_mono HO_5.out (fun _ hk => ⟨trivial, hk⟩)) hg hat); have n1_ := Aside0.mk (hb); have n2_ := Aside0.mk (ho); clear HO_5; clear HB; clear HO_1; have HO_5 := n0_; have HB := n1_; have HO226 := n2_; clear n0_ n1_ n2_; clear ho hb hg hat))
                    go_roundg k2
                    case measure => have := HK1.out; have := HK2.out; omega
                    case rel => exact ⟨(y224), (wrap64 (x4_2 + 1)), (by first | rfl | (simp; done) | (simp [*]; done)), H', ⟨by have := HK1.out; have := HK2.out; omega⟩, ⟨by (with_reducible repeat (first | apply Kd.R_alloc | apply Kd.R_drewN | apply Kd.R_drew)); exact HO226.out⟩, ⟨by (with_reducible repeat (first | apply Kd.R_alloc | apply Kd.R_drewN | apply Kd.R_drew)); exact Kd.R_mono HO_5.out (fun _ hk => hk.2)⟩, ⟨by repeat (first | (with_reducible first | exact HB.out | apply below_alloc | apply pw_below_drewN | apply below_drew1) | exact HB.out)⟩⟩
                  · rw [if_neg c8] at H
                    exact absurd H (by simp)
                · rw [if_neg c7] at H
                  have c7b0 : decide (x4_2 < 8) = false := decide_eq_false c7
                  clear c7
                  have H' := Aside0.mk H
                  clear H
                  go_wp2
                  go_roundg k2
                  case measure => have := HK1.out; have := HK2.out; omega
                  case rel => exact ⟨(x1_2), (wrap64 (x7_1 + 1)), (by first | rfl | (simp; done) | (simp [*]; done)), H', ⟨by have := HK1.out; have := HK2.out; omega⟩, ⟨by (with_reducible repeat (first | apply Kd.R_alloc | apply Kd.R_drewN | apply Kd.R_drew)); exact HO_1.out⟩, ⟨by (with_reducible repeat (first | apply Kd.R_alloc | apply Kd.R_drewN | apply Kd.R_drew)); exact HO_5.out⟩, ⟨by repeat (first | (with_reducible first | exact HB.out | apply below_alloc | apply pw_below_drewN | apply below_drew1) | exact HB.out)⟩⟩
          · rw [if_neg c6] at H
            exact absurd H (by simp)
        · rw [if_neg c5] at H
          exact absurd H (by simp)
      · rw [if_neg c4] at H
        have c4b0 : decide (x7_1 < (y220.length : Int)) = false := decide_eq_false c4
        clear c4
        obtain rfl := Option.some.inj H
        go_wp2
        go_ret
        exact ⟨_, by first | rfl | (simp [errW_none, errW_some] <;> rfl) | (simp [*, errW_none, errW_some] <;> rfl), by (with_reducible repeat (first | apply Kd.R_alloc | apply Kd.R_drewN | apply Kd.R_drew)); exact Kd.R_mono HO_1.out (fun _ hk => trivial), by repeat (first | (with_reducible first | exact HB.out | apply below_alloc | apply pw_below_drewN | apply below_drew1) | exact HB.out)⟩

/-! ### spec_l1Xor: function 45 -/
def spec_l1Xor.l0 : Nat → List Int → List Int → List Int → Int → Int → Option (List Int)
  | 0, _, _, _, _, _ => none
  | k + 1, x0, x1, x5, x11, x12 => if x12 < x11 then (if 0 ≤ x12 then (if x12 < (x0.length : Int) then (if x12 < (x1.length : Int) then (if x12 < (x5.length : Int) then (spec_l1Xor.l0 k x0 x1 (x5.set (x12 : Int).toNat (Go.bits .xor .u8 (rd x0 x12) (rd x1 x12))) x11 (wrap64 (x12 + 1))) else (none)) else (none)) else (none)) else (none)) else (some x5)
def spec_l1Xor.f (k : Nat) (l0 : List Int) (l1 : List Int) : Option (List Int) := if 0 ≤ (l0.length : Int) then (if ((l0.length : Int) : Int).toNat ≤ 281474976710656 then (spec_l1Xor.l0 k l0 l1 (List.replicate ((l0.length : Int) : Int).toNat 0) (l0.length : Int) 0) else (none)) else (none)
theorem spec_l1Xor.mono_l : ∀ k, (∀ y0 y1 y2 y3 y4, LeO (spec_l1Xor.l0 k y0 y1 y2 y3 y4) (spec_l1Xor.l0 (k + 1) y0 y1 y2 y3 y4))
  | 0 => fun _ _ _ _ _ r h => by simp [spec_l1Xor.l0] at h
  | k + 1 => by
    have ih0 := spec_l1Xor.mono_l k
    · intro y0 y1 y2 y3 y4
      unfold spec_l1Xor.l0
      repeat' first
      | (with_reducible exact ih0 _ _ _ _ _)
      | (with_reducible exact LeO.refl _)
      | (with_reducible exact LeO.none _)
      | (with_reducible refine LeO.ite ?_ ?_)
      | (with_reducible refine LeO.bind ?_ (fun _ => ?_))
      | exact ih0 _ _ _ _ _
      | exact LeO.none _
      | refine LeO.ite ?_ ?_
      | refine LeO.bind ?_ (fun _ => ?_)
theorem spec_l1Xor.mono : ∀ a0 a1 k, LeO (spec_l1Xor.f k a0 a1) (spec_l1Xor.f (k + 1) a0 a1) := by
  intro a0 a1 k
  have ih0 := spec_l1Xor.mono_l k
  unfold spec_l1Xor.f
  repeat' first
      | (with_reducible exact ih0 _ _ _ _ _)
      | (with_reducible exact LeO.refl _)
      | (with_reducible exact LeO.none _)
      | (with_reducible refine LeO.ite ?_ ?_)
      | (with_reducible refine LeO.bind ?_ (fun _ => ?_))
      | exact ih0 _ _ _ _ _
      | exact LeO.none _
      | refine LeO.ite ?_ ?_
      | refine LeO.bind ?_ (fun _ => ?_)
def spec_l1Xor.T5 : Bool × List (List Nat × List Nat) := (true, [([], []), ([], []), ([], []), ([], []), ([2, 3], [2, 3]), ([4], [4]), ([], []), ([], []), ([6, 7], [6, 7]), ([8], [8]), ([5, 9], [5, 9]), ([0, 1, 0, 1, 2, 3, 4, 5, 6, 7, 8, 9, 10], [0, 1]), ([11, 10, 0, 1, 2, 3, 4, 5, 6, 7, 8, 9, 10], [10, 11])])
def spec_l1Xor.B5 : List Nat := [0, 0, 0, 0, 12, 28, 0, 0, 192, 448, 1020, 2047, 4095]
theorem spec_l1Xor.tab5 : rtab .any (opsOf Tryd.f45 5) = spec_l1Xor.T5 := by kernel_rfl
theorem spec_l1Xor.bits5 : waitsOk spec_l1Xor.T5.2 spec_l1Xor.B5 = true := by kernel_rfl
set_option maxHeartbeats 8000000 in
set_option maxRecDepth 100000 in
theorem spec_l1Xor.calls (k : Nat) (A0 : Option Addr) (c0 : Nat) (l0 : List Int) (A1 : Option Addr) (c1 : Nat) (l1 : List Int) (r : List Int) (w : World) (hr0 : Kd.C (Kd.int .u8) w A0 l0.length l0) (hc0 : l0.length ≤ c0) (hr1 : Kd.C (Kd.int .u8) w A1 l1.length l1) (hc1 : l1.length ≤ c1) (h : spec_l1Xor.f k l0 l1 = some r) :
    Calls Tryd.prog 45 #[.slice A0 l0.length c0, .slice A1 l1.length c1] w fun e w' => ∃ v0_ : Value, e = .returned (v0_) ∧ Kd.R (Kd.int .u8) 5 w' w.heap.size (fun _ => True) v0_ r ∧ Below w.heap.size w w' := by
  have HR0 := Aside0.mk hr0
  have HC0 := Aside0.mk hc0
  clear hr0 hc0
  have HR1 := Aside0.mk hr1
  have HC1 := Aside0.mk hc1
  clear hr1 hc1
  have HB := Aside0.mk (Below.refl w.heap.size w)
  have H : (if 0 ≤ (l0.length : Int) then (if ((l0.length : Int) : Int).toNat ≤ 281474976710656 then (spec_l1Xor.l0 k l0 l1 (List.replicate ((l0.length : Int) : Int).toNat 0) (l0.length : Int) 0) else (none)) else (none)) = some r := h
  clear h
  by_cases c3 : 0 ≤ (l0.length : Int)
  · rw [if_pos c3] at H
    have c3b0 := eq_true c3
    have c3b1 : decide (0 ≤ (l0.length : Int)) = true := decide_eq_true c3
    clear c3
    by_cases c4 : ((l0.length : Int) : Int).toNat ≤ 281474976710656
    · rw [if_pos c4] at H
      have c4b0 := eq_true c4
      have c4b1 : decide (((l0.length : Int) : Int).toNat ≤ 281474976710656) = true := decide_eq_true c4
      clear c4
      obtain ⟨y227, hy227⟩ : ∃ y_ : List Int, y_ = (List.replicate ((l0.length : Int) : Int).toNat 0) := ⟨_, rfl⟩
      replace H : (spec_l1Xor.l0 k l0 l1 y227 (l0.length : Int) 0) = some r := by first | (rw [hy227]; with_reducible exact H) | (have H2_ := (Option.bind_some _ _).symm.trans H; rw [hy227]; with_reducible exact H2_) | (have H2_ := (Option.bind_some _ _).symm.trans H; with_reducible exact H2_) | with_reducible exact H | (rw [hy227]; exact H) | exact H
      have Ny227 := Aside0.mk hy227
      clear hy227
      have H' := Aside0.mk H
      clear H
      go_enter Tryd.func45, Tryd.ntmps45
      go_wp2_with (first | ((with_reducible refine gate_dst (N := 9) rfl ?_); refine Kd.R_make (Kd.int .u8) _ 5 rfl (N := 9) rfl 22 _ _ rfl (l0.length : Int) rfl rfl Tryd.underlying22 (.int .u8 0) 1 info5 rfl (by decide) (by omega) 0 (ok := fun _ => True) (okp := fun _ => True) rfl (fun _ hk => hk) trivial (of_decide_eq_true (by first | (with_reducible assumption) | assumption)) (Nat.le_trans (Nat.mul_le_mul_right _ (of_decide_eq_true (by first | (with_reducible assumption) | assumption) : (l0.length : Int).toNat ≤ 281474976710656)) (by omega)) (Below.refl _ _) (Nat.le_refl _) ?_; intro v228 w5 ho6 hb hg_ hnew_; clear hg_ hnew_; (first | rw [← Ny227.out] at ho6 | (simp only [Int.reduceToNat] at ho6; rw [← Ny227.out] at ho6)); have n0_ := Aside0.mk (Kd.R_lower ho6 (below_size (by repeat (first | (with_reducible first | exact HB.out | apply below_alloc | apply pw_below_drewN | apply below_drew1) | exact HB.out)))); have n1_ := Aside0.mk (below_step (by repeat (first | (with_reducible first | exact HB.out | apply below_alloc | apply pw_below_drewN | apply below_drew1) | exact HB.out)) hb); clear HB; have HO229 := n0_; have HB := n1_; clear n0_ n1_; clear hb ho6))
      go_loopg [12] k (fun kq v12 w' => ∃ (x5_1 : List Int) (x12_1 : Int), v12 = .int .i64 x12_1 ∧ Aside0 (spec_l1Xor.l0 kq l0 l1 x5_1 (l0.length : Int) x12_1 = some r) ∧ Aside0 (kq ≤ k) ∧ Aside0 (Kd.R (Kd.int .u8) 5 w' w.heap.size (fun _ => True) v228 x5_1) ∧ Aside0 (Below w.heap.size w w'))
      case atStart => exact ⟨(y227), (0), (by first | rfl | (simp; done) | (simp [*]; done)), H', ⟨Nat.le_refl _⟩, ⟨by (with_reducible repeat (first | apply Kd.R_alloc | apply Kd.R_drewN | apply Kd.R_drew)); exact HO229.out⟩, ⟨by repeat (first | (with_reducible first | exact HB.out | apply below_alloc | apply pw_below_drewN | apply below_drew1) | exact HB.out)⟩⟩
      case round =>
        clear H'
        try clear c1
        try clear p2
        try clear c3
        try clear c3b0
        try clear c3b1
        try clear c4
        try clear c4b0
        try clear c4b1
        obtain ⟨x5_1, x12_1, rfl, HA, HK1, HO_5, HB⟩ := hrel
        cases gk with
        | zero => exact absurd HA.out (by simp [spec_l1Xor.l0])
        | succ k1 =>
          have H := HA.out
          clear HA
          simp only [spec_l1Xor.l0] at H
          by_cases c7 : x12_1 < (l0.length : Int)
          · rw [if_pos c7] at H
            have c7b0 : decide (x12_1 < (l0.length : Int)) = true := decide_eq_true c7
            clear c7
            by_cases c8 : 0 ≤ x12_1
            · rw [if_pos c8] at H
              have c8b0 : decide (0 ≤ x12_1) = true := decide_eq_true c8
              clear c8
              by_cases c9 : x12_1 < (l0.length : Int)
              · rw [if_pos c9] at H
                have c9b0 : decide (x12_1 < (l0.length : Int)) = true := decide_eq_true c9
                clear c9
                by_cases c10 : x12_1 < (l1.length : Int)
                · rw [if_pos c10] at H
                  have c10b0 : decide (x12_1 < (l1.length : Int)) = true := decide_eq_true c10
                  clear c10
                  by_cases c11 : x12_1 < (x5_1.length : Int)
                  · rw [if_pos c11] at H
                    have c11b0 : decide (x12_1 < (x5_1.length : Int)) = true := decide_eq_true c11
                    clear c11
                    obtain ⟨y232, hy232⟩ : ∃ y_ : List Int, y_ = (x5_1.set (x12_1 : Int).toNat (Go.bits .xor .u8 (rd l0 x12_1) (rd l1 x12_1))) := ⟨_, rfl⟩
                    replace H : (spec_l1Xor.l0 k1 l0 l1 y232 (l0.length : Int) (wrap64 (x12_1 + 1))) = some r := by first | (rw [hy232]; with_reducible exact H) | (have H2_ := (Option.bind_some _ _).symm.trans H; rw [hy232]; with_reducible exact H2_) | (have H2_ := (Option.bind_some _ _).symm.trans H; with_reducible exact H2_) | with_reducible exact H | (rw [hy232]; exact H) | exact H
                    have Ny232 := Aside0.mk hy232
                    clear hy232
                    have H' := Aside0.mk H
                    clear H
                    try go_wp2
                    have n0_ := Aside0.mk (Kd.R_drew HO_5.out)
                    have n1_ := Aside0.mk (below_drew1 HB.out)
                    clear HO_5
                    clear HB
                    have HO_5 := n0_
                    have HB := n1_
                    clear n0_ n1_
                    have p230 : 0 ≤ (x12_1 : Int) := of_decide_eq_true (by first | (with_reducible assumption) | assumption)
                    have q230 : x12_1 < (l0.length : Int) := of_decide_eq_true (by first | (with_reducible assumption) | assumption)
                    obtain ⟨ad230, e230, hx230_0⟩ := Kd.at_int HR0.out x12_1 p230 q230
                    have hw230_0 := hx230_0
                    cases e230
                    replace hx230_0 := (HB.out.cell (World.block_lt_of_cell? w _ hx230_0)).trans hx230_0
                    replace p230 := eq_true p230
                    replace q230 := eq_true q230
                    have p231 : 0 ≤ (x12_1 : Int) := of_decide_eq_true (by first | (with_reducible assumption) | assumption)
                    have q231 : x12_1 < (l1.length : Int) := of_decide_eq_true (by first | (with_reducible assumption) | assumption)
                    obtain ⟨ad231, e231, hx231_0⟩ := Kd.at_int HR1.out x12_1 p231 q231
                    have hw231_0 := hx231_0
                    cases e231
                    replace hx231_0 := (HB.out.cell (World.block_lt_of_cell? w _ hx231_0)).trans hx231_0
                    replace p231 := eq_true p231
                    replace q231 := eq_true q231
                    have p12 : 0 ≤ (x12_1 : Int) := of_decide_eq_true (by first | (with_reducible assumption) | assumption)
                    have q12 : (x12_1 : Int) < ((x5_1.length : Int) : Int) := of_decide_eq_true (by first | (with_reducible assumption) | assumption)
                    obtain ⟨go12, co12, eo12, gb12, gl12, cl12, HG12⟩ := Kd.R_form HO_5.out (by omega)
                    (first | cases eo12 | (injection eo12 with ea_ en_ ec_; (first | subst ea_ | (injection ea_ with ea_; subst ea_)); subst ec_; clear en_))
                    have GB12 := Aside0.mk gb12
                    have GG12 := Aside0.mk HG12
                    clear gb12 gl12 HG12
                    obtain ⟨hx12_0, hf12_0⟩ := Kd.R_celln 0 HO_5.out (x12_1 : Int) p12 q12
                    replace p12 := eq_true p12
                    replace q12 := eq_true q12
                    have HP14 := Kd.R_putn HO_5.out (x12_1 : Int) (Go.bits .xor .u8 (rd l0 x12_1) (rd l1 x12_1))
                    rw [← Ny232.out] at HP14
                    have HQ14 := Aside0.mk HP14
                    clear HP14
                    refine start_ (n := 13) (S := fun w' => w'.cell? (ad230.add (x12_1).toNat) = some (.int .u8 (rd l0 x12_1)) ∧ w'.cell? (ad231.add (x12_1).toNat) = some (.int .u8 (rd l1 x12_1))) (ds := [12]) #[false, false, false, false, false, false, false, false, false, false, false, false, false] (by kernel_rfl) rfl rfl ⟨((HB.out.cell (World.block_lt_of_cell? w _ hw230_0)).trans hw230_0), ((HB.out.cell (World.block_lt_of_cell? w _ hw231_0)).trans hw231_0)⟩ (fun hHeld => ?_); refine with_tabW spec_l1Xor.tab5 spec_l1Xor.bits5 (fun HT_ HW_ => ?_)
                    generalize wr.drew = w13 at HO_5 HB GG12 HQ14 hf12_0 hx12_0 hx230_0 hx231_0 hHeld ⊢
                    refine pure_ (i := 0) (N := some 15) (v := ?_) (a' := ?_) #[true, false, false, false, false, false, false, false, false, false, false, false, false] rfl rfl (any_of HT_.out (by kernel_rfl)) (fun _ _ _ h => h) (Or.inl ⟨by rfl, ?_⟩) ?_ ?_
                    rotate_left
                    · intro w'
                      go_simp
                      with_reducible rfl
                    rotate_left
                    · simp only [Act.put, List.setIfInBounds_toArray, List.set_cons_zero, List.set_cons_succ, i64_w, i32_w]
                      rfl
                    refine pure_ (i := 1) (N := some 16) (v := ?_) (a' := ?_) #[true, true, false, false, false, false, false, false, false, false, false, false, false] rfl rfl (any_of HT_.out (by kernel_rfl)) (fun _ _ _ h => h) (Or.inl ⟨by rfl, ?_⟩) ?_ ?_
                    rotate_left
                    · intro w'
                      go_simp
                      with_reducible rfl
                    rotate_left
                    · simp only [Act.put, List.setIfInBounds_toArray, List.set_cons_zero, List.set_cons_succ, i64_w, i32_w]
                      rfl
                    refine pure_ (i := 2) (N := some 17) (v := ?_) (a' := ?_) #[true, true, true, false, false, false, false, false, false, false, false, false, false] rfl rfl (any_of HT_.out (by kernel_rfl)) (fun _ _ _ h => h) (Or.inl ⟨by rfl, ?_⟩) ?_ ?_
                    rotate_left
                    · intro w'
                      go_simp
                      with_reducible rfl
                    rotate_left
                    · simp only [Act.put, List.setIfInBounds_toArray, List.set_cons_zero, List.set_cons_succ, i64_w, i32_w]
                      rfl
                    refine pure_ (i := 3) (N := some 18) (v := ?_) (a' := ?_) #[true, true, true, true, false, false, false, false, false, false, false, false, false] rfl rfl (any_of HT_.out (by kernel_rfl)) (fun _ _ _ h => h) (Or.inl ⟨by rfl, ?_⟩) ?_ ?_
                    rotate_left
                    · intro w'
                      go_simp
                      with_reducible rfl
                    rotate_left
                    · simp only [Act.put, List.setIfInBounds_toArray, List.set_cons_zero, List.set_cons_succ, i64_w, i32_w]
                      rfl
                    refine pure_ (i := 4) (N := some 19) (v := ?_) (a' := ?_) #[true, true, true, true, true, false, false, false, false, false, false, false, false] rfl rfl (any_of HT_.out (by kernel_rfl)) (fun _ _ _ h => h) (Or.inl ⟨by rfl, ?_⟩) ?_ ?_
                    rotate_left
                    · intro w'
                      go_simp
                      with_reducible rfl
                    rotate_left
                    · simp only [Act.put, List.setIfInBounds_toArray, List.set_cons_zero, List.set_cons_succ, i64_w, i32_w]
                      rfl
                    refine pure_ (i := 6) (N := some 21) (v := ?_) (a' := ?_) #[true, true, true, true, true, false, true, false, false, false, false, false, false] rfl rfl (any_of HT_.out (by kernel_rfl)) (fun _ _ _ h => h) (Or.inl ⟨by rfl, ?_⟩) ?_ ?_
                    rotate_left
                    · intro w'
                      go_simp
                      with_reducible rfl
                    rotate_left
                    · simp only [Act.put, List.setIfInBounds_toArray, List.set_cons_zero, List.set_cons_succ, i64_w, i32_w]
                      rfl
                    refine pure_ (i := 7) (N := some 22) (v := ?_) (a' := ?_) #[true, true, true, true, true, false, true, true, false, false, false, false, false] rfl rfl (any_of HT_.out (by kernel_rfl)) (fun _ _ _ h => h) (Or.inl ⟨by rfl, ?_⟩) ?_ ?_
                    rotate_left
                    · intro w'
                      go_simp
                      with_reducible rfl
                    rotate_left
                    · simp only [Act.put, List.setIfInBounds_toArray, List.set_cons_zero, List.set_cons_succ, i64_w, i32_w]
                      rfl
                    refine pure_ (i := 8) (N := some 23) (v := ?_) (a' := ?_) #[true, true, true, true, true, false, true, true, true, false, false, false, false] rfl rfl (any_of HT_.out (by kernel_rfl)) (fun _ _ _ h => h) (Or.inl ⟨by rfl, ?_⟩) ?_ ?_
                    rotate_left
                    · intro w'
                      go_simp
                      with_reducible rfl
                    rotate_left
                    · simp only [Act.put, List.setIfInBounds_toArray, List.set_cons_zero, List.set_cons_succ, i64_w, i32_w]
                      rfl
                    refine take_ (i := 5) (N := some 20) (v := ?_) (a' := ?_) #[true, true, true, true, true, true, true, true, true, false, false, false, false] rfl rfl (take_ofW HT_.out HW_.out (by kernel_rfl)) (fun _ _ _ h => h) (Or.inl ⟨by rfl, ?_⟩) hHeld ?_ ?_
                    rotate_left
                    · rintro w' ⟨s0, s1⟩
                      go_simp
                      with_reducible rfl
                    rotate_left
                    · simp only [Act.put, List.setIfInBounds_toArray, List.set_cons_zero, List.set_cons_succ, i64_w, i32_w]
                      rfl
                    refine take_ (i := 9) (N := some 24) (v := ?_) (a' := ?_) #[true, true, true, true, true, true, true, true, true, true, false, false, false] rfl rfl (take_ofW HT_.out HW_.out (by kernel_rfl)) (fun _ _ _ h => h) (Or.inl ⟨by rfl, ?_⟩) hHeld ?_ ?_
                    rotate_left
                    · rintro w' ⟨s0, s1⟩
                      go_simp
                      with_reducible rfl
                    rotate_left
                    · simp only [Act.put, List.setIfInBounds_toArray, List.set_cons_zero, List.set_cons_succ, i64_w, i32_w]
                      rfl
                    refine pure_ (i := 10) (N := some 25) (v := ?_) (a' := ?_) #[true, true, true, true, true, true, true, true, true, true, true, false, false] rfl rfl (any_of HT_.out (by kernel_rfl)) (fun _ _ _ h => h) (Or.inl ⟨by rfl, ?_⟩) ?_ ?_
                    rotate_left
                    · intro w'
                      go_simp
                      with_reducible rfl
                    rotate_left
                    · simp only [Act.put, List.setIfInBounds_toArray, List.set_cons_zero, List.set_cons_succ, i64_w, i32_w]
                      rfl
                    refine pure_ (i := 11) (N := some 26) (v := ?_) (a' := ?_) #[true, true, true, true, true, true, true, true, true, true, true, true, false] rfl rfl (any_of HT_.out (by kernel_rfl)) (fun _ _ _ h => h) (Or.inl ⟨by rfl, ?_⟩) ?_ ?_
                    rotate_left
                    · intro w'
                      go_simp
                      with_reducible rfl
                    rotate_left
                    · simp only [Act.put, List.setIfInBounds_toArray, List.set_cons_zero, List.set_cons_succ, i64_w, i32_w]
                      rfl
                    refine last_ (i := 12) (N := none) #[true, true, true, true, true, true, true, true, true, true, true, true, true] rfl rfl (one_of HT_.out (by kernel_rfl)) (by decide) (fun K hK => ?_)
                    refine skip_ (w1 := ?_) (by rfl) rfl ?_ ?_
                    rotate_left
                    · go_simp
                      rfl
                    refine hK.out _ _ ?_
                    clear hK K
                    refine done_ (done_of HT_.out (by kernel_rfl)) ?_
                    try go_wp2
                    go_roundg k1
                    case measure => have := HK1.out; omega
                    case rel => exact ⟨(y232), (wrap64 (x12_1 + 1)), (by first | rfl | (simp; done) | (simp [*]; done)), H', ⟨by have := HK1.out; omega⟩, ⟨by (with_reducible repeat (first | apply Kd.R_alloc | apply Kd.R_drewN | apply Kd.R_drew)); exact HQ14.out⟩, ⟨by repeat (first | (with_reducible first | exact HB.out | apply below_alloc | apply pw_below_drewN | apply below_drew1 | refine below_set ?_ GB12.out) | exact HB.out)⟩⟩
                  · rw [if_neg c11] at H
                    exact absurd H (by simp)
                · rw [if_neg c10] at H
                  exact absurd H (by simp)
              · rw [if_neg c9] at H
                exact absurd H (by simp)
            · rw [if_neg c8] at H
              exact absurd H (by simp)
          · rw [if_neg c7] at H
            have c7b0 : decide (x12_1 < (l0.length : Int)) = false := decide_eq_false c7
            clear c7
            obtain rfl := Option.some.inj H
            go_wp2
            go_ret
            exact ⟨_, by first | rfl | (simp [errW_none, errW_some] <;> rfl) | (simp [*, errW_none, errW_some] <;> rfl), by (with_reducible repeat (first | apply Kd.R_alloc | apply Kd.R_drewN | apply Kd.R_drew)); exact HO_5.out, by repeat (first | (with_reducible first | exact HB.out | apply below_alloc | apply pw_below_drewN | apply below_drew1) | exact HB.out)⟩
    · rw [if_neg c4] at H
      exact absurd H (by simp)
  · rw [if_neg c3] at H
    exact absurd H (by simp)

/-! ### spec_l1E: function 70 -/
mutual
def spec_l1E.l0 : Nat → List Int → Int → Option (List Int)
  | 0, _, _ => none
  | k + 1, x1, x2 => if x2 < 8 then (spec_l1E.l1 k x1 x2 0) else (some x1)
def spec_l1E.l1 : Nat → List Int → Int → Int → Option (List Int)
  | 0, _, _, _ => none
  | k + 1, x1, x2, x3 => if x3 < 6 then (if x1.length < 17592186044416 then (spec_l1E.l1 k (x1 ++ [wrap64 ((Int.tmod (wrap64 ((wrap64 ((wrap64 (4 * x2)) + x3)) + 31)) 32) + 1)]) x2 (wrap64 (x3 + 1))) else (none)) else (spec_l1E.l0 k x1 (wrap64 (x2 + 1)))
end
def spec_l1E.f (k : Nat)  : Option (List Int) := spec_l1E.l0 k ([] : List Int) 0
theorem spec_l1E.mono_l : ∀ k, (∀ y0 y1, LeO (spec_l1E.l0 k y0 y1) (spec_l1E.l0 (k + 1) y0 y1)) ∧ (∀ y0 y1 y2, LeO (spec_l1E.l1 k y0 y1 y2) (spec_l1E.l1 (k + 1) y0 y1 y2))
  | 0 => ⟨fun _ _ r h => by simp [spec_l1E.l0] at h, fun _ _ _ r h => by simp [spec_l1E.l1] at h⟩
  | k + 1 => by
    obtain ⟨ih0, ih1⟩ := spec_l1E.mono_l k
    refine ⟨?_, ?_⟩
    · intro y0 y1
      unfold spec_l1E.l0
      repeat' first
      | (with_reducible exact ih0 _ _)
      | (with_reducible exact ih1 _ _ _)
      | (with_reducible exact LeO.refl _)
      | (with_reducible exact LeO.none _)
      | (with_reducible refine LeO.ite ?_ ?_)
      | (with_reducible refine LeO.bind ?_ (fun _ => ?_))
      | exact ih0 _ _
      | exact ih1 _ _ _
      | exact LeO.none _
      | refine LeO.ite ?_ ?_
      | refine LeO.bind ?_ (fun _ => ?_)
    · intro y0 y1 y2
      unfold spec_l1E.l1
      repeat' first
      | (with_reducible exact ih0 _ _)
      | (with_reducible exact ih1 _ _ _)
      | (with_reducible exact LeO.refl _)
      | (with_reducible exact LeO.none _)
      | (with_reducible refine LeO.ite ?_ ?_)
      | (with_reducible refine LeO.bind ?_ (fun _ => ?_))
      | exact ih0 _ _
      | exact ih1 _ _ _
      | exact LeO.none _
      | refine LeO.ite ?_ ?_
      | refine LeO.bind ?_ (fun _ => ?_)
theorem spec_l1E.mono : ∀ k, LeO (spec_l1E.f k ) (spec_l1E.f (k + 1) ) := by
  intro  k
  obtain ⟨ih0, ih1⟩ := spec_l1E.mono_l k
  unfold spec_l1E.f
  repeat' first
      | (with_reducible exact ih0 _ _)
      | (with_reducible exact ih1 _ _ _)
      | (with_reducible exact LeO.refl _)
      | (with_reducible exact LeO.none _)
      | (with_reducible refine LeO.ite ?_ ?_)
      | (with_reducible refine LeO.bind ?_ (fun _ => ?_))
      | exact ih0 _ _
      | exact ih1 _ _ _
      | exact LeO.none _
      | refine LeO.ite ?_ ?_
      | refine LeO.bind ?_ (fun _ => ?_)
set_option maxHeartbeats 8000000 in
set_option maxRecDepth 100000 in
theorem spec_l1E.calls (k : Nat)  (r : List Int) (w : World) (h : spec_l1E.f k  = some r) :
    Calls Tryd.prog 70 #[] w fun e w' => ∃ v0_ : Value, e = .returned (v0_) ∧ Kd.R (Kd.int .i64) 3 w' w.heap.size (fun _ => True) v0_ r ∧ Below w.heap.size w w' := by
  have HB := Aside0.mk (Below.refl w.heap.size w)
  have H : (spec_l1E.l0 k ([] : List Int) 0) = some r := h
  clear h
  have H' := Aside0.mk H
  clear H
  go_enter Tryd.func70, Tryd.ntmps70
  go_wp2
  go_loopg [1, 2] k (fun kq v1 v2 w' => ∃ (x1_1 : List Int) (x2_1 : Int), v2 = .int .i64 x2_1 ∧ Aside0 (spec_l1E.l0 kq x1_1 x2_1 = some r) ∧ Aside0 (kq ≤ k) ∧ Aside0 (Kd.R (Kd.int .i64) 3 w' w.heap.size (fun _ => True) v1 x1_1) ∧ Aside0 (Below w.heap.size w w'))
  case atStart => exact ⟨(([] : List Int)), (0), (by first | rfl | (simp; done) | (simp [*]; done)), H', ⟨Nat.le_refl _⟩, ⟨by first | exact Kd.R_nil _ _ _ _ _ | exact Kd.N_nil _ _ _ _ _ | exact Kd.V_nil _ _ _ _ _ | exact Kd.Q_nil _ _ _ _ _ | exact Kd.S_nil _ _ _ _ _⟩, ⟨by repeat (first | (with_reducible first | exact HB.out | apply below_alloc | apply pw_below_drewN | apply below_drew1) | exact HB.out)⟩⟩
  case round =>
    clear H'
    obtain ⟨x1_1, x2_1, rfl, HA, HK1, HO_1, HB⟩ := hrel
    cases gk with
    | zero => exact absurd HA.out (by simp [spec_l1E.l0])
    | succ k1 =>
      have H := HA.out
      clear HA
      simp only [spec_l1E.l0] at H
      by_cases c1 : x2_1 < 8
      · rw [if_pos c1] at H
        have c1b0 : decide (x2_1 < 8) = true := decide_eq_true c1
        clear c1
        have H' := Aside0.mk H
        clear H
        go_wp2
        go_loopg [1, 3] k1 (fun kq v1 v3 w' => ∃ (x1_2 : List Int) (x3_2 : Int), v3 = .int .i64 x3_2 ∧ Aside0 (spec_l1E.l1 kq x1_2 x2_1 x3_2 = some r) ∧ Aside0 (kq ≤ k1) ∧ Aside0 (Kd.R (Kd.int .i64) 3 w' w.heap.size (fun _ => True) v1 x1_2) ∧ Aside0 (Below w.heap.size w w'))
        case atStart => exact ⟨(x1_1), (0), (by first | rfl | (simp; done) | (simp [*]; done)), H', ⟨Nat.le_refl _⟩, ⟨by (with_reducible repeat (first | apply Kd.R_alloc | apply Kd.R_drewN | apply Kd.R_drew)); exact HO_1.out⟩, ⟨by repeat (first | (with_reducible first | exact HB.out | apply below_alloc | apply pw_below_drewN | apply below_drew1) | exact HB.out)⟩⟩
        case round =>
          clear H'
          try clear c1
          try clear c1b0
          obtain ⟨x1_2, x3_2, rfl, HA, HK2, HO_1, HB⟩ := hrel
          cases gk with
          | zero => exact absurd HA.out (by simp [spec_l1E.l1])
          | succ k2 =>
            have H := HA.out
            clear HA
            simp only [spec_l1E.l1] at H
            by_cases c2 : x3_2 < 6
            · rw [if_pos c2] at H
              have c2b0 : decide (x3_2 < 6) = true := decide_eq_true c2
              clear c2
              by_cases c3 : x1_2.length < 17592186044416
              · rw [if_pos c3] at H
                have LMc3 := Aside0.mk c3
                clear c3
                obtain ⟨y233, hy233⟩ : ∃ y_ : List Int, y_ = (x1_2 ++ [wrap64 ((Int.tmod (wrap64 ((wrap64 ((wrap64 (4 * x2_1)) + x3_2)) + 31)) 32) + 1)]) := ⟨_, rfl⟩
                replace H : (spec_l1E.l1 k2 y233 x2_1 (wrap64 (x3_2 + 1))) = some r := by first | (rw [hy233]; with_reducible exact H) | (have H2_ := (Option.bind_some _ _).symm.trans H; rw [hy233]; with_reducible exact H2_) | (have H2_ := (Option.bind_some _ _).symm.trans H; with_reducible exact H2_) | with_reducible exact H | (rw [hy233]; exact H) | exact H
                have Ny233 := Aside0.mk hy233
                clear hy233
                have H' := Aside0.mk H
                clear H
                go_wp2_with (first | ((with_reducible refine gate_builtin (b := .append) (xs := #[.tmp 12, .tmp 20]) rfl ?_); at_builtin; refine Kd.R_append (Kd.int .i64) (w0 := w) w.heap.size rfl (.tmp 12) (.tmp 20) 50 3 (.int .i64 0) 8 rfl Tryd.underlying50 info3 rfl (by decide) (by omega) u1 x1_2 (wrap64 ((Int.tmod (wrap64 ((wrap64 ((wrap64 (4 * x2_1)) + x3_2)) + 31)) 32) + 1)) [.int .i64 (wrap64 ((Int.tmod (wrap64 ((wrap64 ((wrap64 (4 * x2_1)) + x3_2)) + 31)) 32) + 1))] (fun _ => True) (fun _ => False) rfl rfl ?aP (fun _ hk => hk.elim) ?aF ?aO ?aB ?aS ?aL ?_; (case aP => exact rfl); (case aB => exact (by repeat (first | (with_reducible first | exact HB.out | apply below_alloc | apply pw_below_drewN | apply below_drew1) | exact HB.out))); (case aF => exact (fun _ _ => trivial)); (case aO => exact (by (with_reducible repeat (first | apply Kd.R_alloc | apply Kd.R_drewN | apply Kd.R_drew)); exact HO_1.out)); (case aS => exact (below_size (by repeat (first | (with_reducible first | exact HB.out | apply below_alloc | apply pw_below_drewN | apply below_drew1) | exact HB.out)))); (case aL => have := LMc3.out; omega); intro v234 w4 ho hb hg hat; rw [← Ny233.out] at ho; have n0_ := Aside0.mk (hb); have n1_ := Aside0.mk (ho); clear HB; clear HO_1; have HB := n0_; have HO235 := n1_; clear n0_ n1_; clear ho hb hg hat))
                go_roundg k2
                case measure => have := HK1.out; have := HK2.out; omega
                case rel => exact ⟨(y233), (wrap64 (x3_2 + 1)), (by first | rfl | (simp; done) | (simp [*]; done)), H', ⟨by have := HK1.out; have := HK2.out; omega⟩, ⟨by (with_reducible repeat (first | apply Kd.R_alloc | apply Kd.R_drewN | apply Kd.R_drew)); exact HO235.out⟩, ⟨by repeat (first | (with_reducible first | exact HB.out | apply below_alloc | apply pw_below_drewN | apply below_drew1) | exact HB.out)⟩⟩
              · rw [if_neg c3] at H
                exact absurd H (by simp)
            · rw [if_neg c2] at H
              have c2b0 : decide (x3_2 < 6) = false := decide_eq_false c2
              clear c2
              have H' := Aside0.mk H
              clear H
              go_wp2
              go_roundg k2
              case measure => have := HK1.out; have := HK2.out; omega
              case rel => exact ⟨(x1_2), (wrap64 (x2_1 + 1)), (by first | rfl | (simp; done) | (simp [*]; done)), H', ⟨by have := HK1.out; have := HK2.out; omega⟩, ⟨by (with_reducible repeat (first | apply Kd.R_alloc | apply Kd.R_drewN | apply Kd.R_drew)); exact HO_1.out⟩, ⟨by repeat (first | (with_reducible first | exact HB.out | apply below_alloc | apply pw_below_drewN | apply below_drew1) | exact HB.out)⟩⟩
      · rw [if_neg c1] at H
        have c1b0 : decide (x2_1 < 8) = false := decide_eq_false c1
        clear c1
        obtain rfl := Option.some.inj H
        go_wp2
        go_ret
        exact ⟨_, by first | rfl | (simp [errW_none, errW_some] <;> rfl) | (simp [*, errW_none, errW_some] <;> rfl), by (with_reducible repeat (first | apply Kd.R_alloc | apply Kd.R_drewN | apply Kd.R_drew)); exact HO_1.out, by repeat (first | (with_reducible first | exact HB.out | apply below_alloc | apply pw_below_drewN | apply below_drew1) | exact HB.out)⟩

/-! ### spec_l1Hex: function 71 -/
def spec_l1Hex.f (a0 : Int) : Option (Int) := if a0 ≤ 57 then (some ((a0 - 48) % 256)) else (some ((((a0 - 65) % 256) + 10) % 256))
set_option maxHeartbeats 8000000 in
set_option maxRecDepth 100000 in
theorem spec_l1Hex.calls (a0 : Int) (r : Int) (w : World) (h : spec_l1Hex.f a0 = some r) :
    Calls Tryd.prog 71 #[.int .u8 a0] w fun e w' => e = .returned (.int .u8 r) ∧ Drawn0 w w' := by
  have H : (if a0 ≤ 57 then (some ((a0 - 48) % 256)) else (some ((((a0 - 65) % 256) + 10) % 256))) = some r := h
  clear h
  by_cases c2 : a0 ≤ 57
  · rw [if_pos c2] at H
    have c2b0 : decide (a0 ≤ 57) = true := decide_eq_true c2
    clear c2
    obtain rfl := Option.some.inj H
    go_enter Tryd.func71, Tryd.ntmps71
    go_wp2
    go_ret
    exact ⟨by first | rfl | (simp; done) | (simp [*]; done), by repeat (first | exact Drawn0.refl _ | apply Drawn0.step)⟩
  · rw [if_neg c2] at H
    have c2b0 : decide (a0 ≤ 57) = false := decide_eq_false c2
    clear c2
    obtain rfl := Option.some.inj H
    go_enter Tryd.func71, Tryd.ntmps71
    go_wp2
    go_ret
    exact ⟨by first | rfl | (simp; done) | (simp [*]; done), by repeat (first | exact Drawn0.refl _ | apply Drawn0.step)⟩

/-! ### spec_l1Box: function 72 -/
def spec_l1Box.f (a0 : Int) : Option (ByteArray) := (some (([(⟨#[69, 52, 68, 49, 50, 70, 66, 56, 51, 65, 54, 67, 53, 57, 48, 55, 48, 70, 55, 52, 69, 50, 68, 49, 65, 54, 67, 66, 57, 53, 51, 56, 52, 49, 69, 56, 68, 54, 50, 66, 70, 67, 57, 55, 51, 65, 53, 48, 70, 67, 56, 50, 52, 57, 49, 55, 53, 66, 51, 69, 65, 48, 54, 68]⟩ : ByteArray), (⟨#[70, 49, 56, 69, 54, 66, 51, 52, 57, 55, 50, 68, 67, 48, 53, 65, 51, 68, 52, 55, 70, 50, 56, 69, 67, 48, 49, 65, 54, 57, 66, 53, 48, 69, 55, 66, 65, 52, 68, 49, 53, 56, 67, 54, 57, 51, 50, 70, 68, 56, 65, 49, 51, 70, 52, 50, 66, 54, 55, 67, 48, 53, 69, 57]⟩ : ByteArray), (⟨#[65, 48, 57, 69, 54, 51, 70, 53, 49, 68, 67, 55, 66, 52, 50, 56, 68, 55, 48, 57, 51, 52, 54, 65, 50, 56, 53, 69, 67, 66, 70, 49, 68, 54, 52, 57, 56, 70, 51, 48, 66, 49, 50, 67, 53, 65, 69, 55, 49, 65, 68, 48, 54, 57, 56, 55, 52, 70, 69, 51, 66, 53, 50, 67]⟩ : ByteArray), (⟨#[55, 68, 69, 51, 48, 54, 57, 65, 49, 50, 56, 53, 66, 67, 52, 70, 68, 56, 66, 53, 54, 70, 48, 51, 52, 55, 50, 67, 49, 65, 69, 57, 65, 54, 57, 48, 67, 66, 55, 68, 70, 49, 51, 69, 53, 50, 56, 52, 51, 70, 48, 54, 65, 49, 68, 56, 57, 52, 53, 66, 67, 55, 50, 69]⟩ : ByteArray), (⟨#[50, 67, 52, 49, 55, 65, 66, 54, 56, 53, 51, 70, 68, 48, 69, 57, 69, 66, 50, 67, 52, 55, 68, 49, 53, 48, 70, 65, 51, 57, 56, 54, 52, 50, 49, 66, 65, 68, 55, 56, 70, 57, 67, 53, 54, 51, 48, 69, 66, 56, 67, 55, 49, 69, 50, 68, 54, 70, 48, 57, 65, 52, 53, 51]⟩ : ByteArray), (⟨#[67, 49, 65, 70, 57, 50, 54, 56, 48, 68, 51, 52, 69, 55, 53, 66, 65, 70, 52, 50, 55, 67, 57, 53, 54, 49, 68, 69, 48, 66, 51, 56, 57, 69, 70, 53, 50, 56, 67, 51, 55, 48, 52, 65, 49, 68, 66, 54, 52, 51, 50, 67, 57, 53, 70, 65, 66, 69, 49, 55, 54, 48, 56, 68]⟩ : ByteArray), (⟨#[52, 66, 50, 69, 70, 48, 56, 68, 51, 67, 57, 55, 53, 65, 54, 49, 68, 48, 66, 55, 52, 57, 49, 65, 69, 51, 53, 67, 50, 70, 56, 54, 49, 52, 66, 68, 67, 51, 55, 69, 65, 70, 54, 56, 48, 53, 57, 50, 54, 66, 68, 56, 49, 52, 65, 55, 57, 53, 48, 70, 69, 50, 51, 67]⟩ : ByteArray), (⟨#[68, 50, 56, 52, 54, 70, 66, 49, 65, 57, 51, 69, 53, 48, 67, 55, 49, 70, 68, 56, 65, 51, 55, 52, 67, 53, 54, 66, 48, 69, 57, 50, 55, 66, 52, 49, 57, 67, 69, 50, 48, 54, 65, 68, 70, 51, 53, 56, 50, 49, 69, 55, 52, 65, 56, 68, 70, 67, 57, 48, 51, 53, 54, 66]⟩ : ByteArray)] : List ByteArray) : List ByteArray)).bind fun y236 => (if 0 ≤ a0 then (if a0 < (y236.length : Int) then (some (rdOf ByteArray.empty y236 a0)) else (none)) else (none))
set_option maxHeartbeats 8000000 in
set_option maxRecDepth 100000 in
theorem spec_l1Box.calls (a0 : Int) (r : ByteArray) (w : World) (h : spec_l1Box.f a0 = some r) :
    Calls Tryd.prog 72 #[.int .i64 a0] w fun e w' => e = .returned (.string r) ∧ Below w.heap.size w w' := by
  have HB := Aside0.mk (Below.refl w.heap.size w)
  have H : ((some (([(⟨#[69, 52, 68, 49, 50, 70, 66, 56, 51, 65, 54, 67, 53, 57, 48, 55, 48, 70, 55, 52, 69, 50, 68, 49, 65, 54, 67, 66, 57, 53, 51, 56, 52, 49, 69, 56, 68, 54, 50, 66, 70, 67, 57, 55, 51, 65, 53, 48, 70, 67, 56, 50, 52, 57, 49, 55, 53, 66, 51, 69, 65, 48, 54, 68]⟩ : ByteArray), (⟨#[70, 49, 56, 69, 54, 66, 51, 52, 57, 55, 50, 68, 67, 48, 53, 65, 51, 68, 52, 55, 70, 50, 56, 69, 67, 48, 49, 65, 54, 57, 66, 53, 48, 69, 55, 66, 65, 52, 68, 49, 53, 56, 67, 54, 57, 51, 50, 70, 68, 56, 65, 49, 51, 70, 52, 50, 66, 54, 55, 67, 48, 53, 69, 57]⟩ : ByteArray), (⟨#[65, 48, 57, 69, 54, 51, 70, 53, 49, 68, 67, 55, 66, 52, 50, 56, 68, 55, 48, 57, 51, 52, 54, 65, 50, 56, 53, 69, 67, 66, 70, 49, 68, 54, 52, 57, 56, 70, 51, 48, 66, 49, 50, 67, 53, 65, 69, 55, 49, 65, 68, 48, 54, 57, 56, 55, 52, 70, 69, 51, 66, 53, 50, 67]⟩ : ByteArray), (⟨#[55, 68, 69, 51, 48, 54, 57, 65, 49, 50, 56, 53, 66, 67, 52, 70, 68, 56, 66, 53, 54, 70, 48, 51, 52, 55, 50, 67, 49, 65, 69, 57, 65, 54, 57, 48, 67, 66, 55, 68, 70, 49, 51, 69, 53, 50, 56, 52, 51, 70, 48, 54, 65, 49, 68, 56, 57, 52, 53, 66, 67, 55, 50, 69]⟩ : ByteArray), (⟨#[50, 67, 52, 49, 55, 65, 66, 54, 56, 53, 51, 70, 68, 48, 69, 57, 69, 66, 50, 67, 52, 55, 68, 49, 53, 48, 70, 65, 51, 57, 56, 54, 52, 50, 49, 66, 65, 68, 55, 56, 70, 57, 67, 53, 54, 51, 48, 69, 66, 56, 67, 55, 49, 69, 50, 68, 54, 70, 48, 57, 65, 52, 53, 51]⟩ : ByteArray), (⟨#[67, 49, 65, 70, 57, 50, 54, 56, 48, 68, 51, 52, 69, 55, 53, 66, 65, 70, 52, 50, 55, 67, 57, 53, 54, 49, 68, 69, 48, 66, 51, 56, 57, 69, 70, 53, 50, 56, 67, 51, 55, 48, 52, 65, 49, 68, 66, 54, 52, 51, 50, 67, 57, 53, 70, 65, 66, 69, 49, 55, 54, 48, 56, 68]⟩ : ByteArray), (⟨#[52, 66, 50, 69, 70, 48, 56, 68, 51, 67, 57, 55, 53, 65, 54, 49, 68, 48, 66, 55, 52, 57, 49, 65, 69, 51, 53, 67, 50, 70, 56, 54, 49, 52, 66, 68, 67, 51, 55, 69, 65, 70, 54, 56, 48, 53, 57, 50, 54, 66, 68, 56, 49, 52, 65, 55, 57, 53, 48, 70, 69, 50, 51, 67]⟩ : ByteArray), (⟨#[68, 50, 56, 52, 54, 70, 66, 49, 65, 57, 51, 69, 53, 48, 67, 55, 49, 70, 68, 56, 65, 51, 55, 52, 67, 53, 54, 66, 48, 69, 57, 50, 55, 66, 52, 49, 57, 67, 69, 50, 48, 54, 65, 68, 70, 51, 53, 56, 50, 49, 69, 55, 52, 65, 56, 68, 70, 67, 57, 48, 51, 53, 54, 66]⟩ : ByteArray)] : List ByteArray) : List ByteArray)).bind fun y236 => (if 0 ≤ a0 then (if a0 < (y236.length : Int) then (some (rdOf ByteArray.empty y236 a0)) else (none)) else (none))) = some r := h
  clear h
  obtain ⟨y236, hy236⟩ : ∃ y_ : List ByteArray, y_ = (([(⟨#[69, 52, 68, 49, 50, 70, 66, 56, 51, 65, 54, 67, 53, 57, 48, 55, 48, 70, 55, 52, 69, 50, 68, 49, 65, 54, 67, 66, 57, 53, 51, 56, 52, 49, 69, 56, 68, 54, 50, 66, 70, 67, 57, 55, 51, 65, 53, 48, 70, 67, 56, 50, 52, 57, 49, 55, 53, 66, 51, 69, 65, 48, 54, 68]⟩ : ByteArray), (⟨#[70, 49, 56, 69, 54, 66, 51, 52, 57, 55, 50, 68, 67, 48, 53, 65, 51, 68, 52, 55, 70, 50, 56, 69, 67, 48, 49, 65, 54, 57, 66, 53, 48, 69, 55, 66, 65, 52, 68, 49, 53, 56, 67, 54, 57, 51, 50, 70, 68, 56, 65, 49, 51, 70, 52, 50, 66, 54, 55, 67, 48, 53, 69, 57]⟩ : ByteArray), (⟨#[65, 48, 57, 69, 54, 51, 70, 53, 49, 68, 67, 55, 66, 52, 50, 56, 68, 55, 48, 57, 51, 52, 54, 65, 50, 56, 53, 69, 67, 66, 70, 49, 68, 54, 52, 57, 56, 70, 51, 48, 66, 49, 50, 67, 53, 65, 69, 55, 49, 65, 68, 48, 54, 57, 56, 55, 52, 70, 69, 51, 66, 53, 50, 67]⟩ : ByteArray), (⟨#[55, 68, 69, 51, 48, 54, 57, 65, 49, 50, 56, 53, 66, 67, 52, 70, 68, 56, 66, 53, 54, 70, 48, 51, 52, 55, 50, 67, 49, 65, 69, 57, 65, 54, 57, 48, 67, 66, 55, 68, 70, 49, 51, 69, 53, 50, 56, 52, 51, 70, 48, 54, 65, 49, 68, 56, 57, 52, 53, 66, 67, 55, 50, 69]⟩ : ByteArray), (⟨#[50, 67, 52, 49, 55, 65, 66, 54, 56, 53, 51, 70, 68, 48, 69, 57, 69, 66, 50, 67, 52, 55, 68, 49, 53, 48, 70, 65, 51, 57, 56, 54, 52, 50, 49, 66, 65, 68, 55, 56, 70, 57, 67, 53, 54, 51, 48, 69, 66, 56, 67, 55, 49, 69, 50, 68, 54, 70, 48, 57, 65, 52, 53, 51]⟩ : ByteArray), (⟨#[67, 49, 65, 70, 57, 50, 54, 56, 48, 68, 51, 52, 69, 55, 53, 66, 65, 70, 52, 50, 55, 67, 57, 53, 54, 49, 68, 69, 48, 66, 51, 56, 57, 69, 70, 53, 50, 56, 67, 51, 55, 48, 52, 65, 49, 68, 66, 54, 52, 51, 50, 67, 57, 53, 70, 65, 66, 69, 49, 55, 54, 48, 56, 68]⟩ : ByteArray), (⟨#[52, 66, 50, 69, 70, 48, 56, 68, 51, 67, 57, 55, 53, 65, 54, 49, 68, 48, 66, 55, 52, 57, 49, 65, 69, 51, 53, 67, 50, 70, 56, 54, 49, 52, 66, 68, 67, 51, 55, 69, 65, 70, 54, 56, 48, 53, 57, 50, 54, 66, 68, 56, 49, 52, 65, 55, 57, 53, 48, 70, 69, 50, 51, 67]⟩ : ByteArray), (⟨#[68, 50, 56, 52, 54, 70, 66, 49, 65, 57, 51, 69, 53, 48, 67, 55, 49, 70, 68, 56, 65, 51, 55, 52, 67, 53, 54, 66, 48, 69, 57, 50, 55, 66, 52, 49, 57, 67, 69, 50, 48, 54, 65, 68, 70, 51, 53, 56, 50, 49, 69, 55, 52, 65, 56, 68, 70, 67, 57, 48, 51, 53, 54, 66]⟩ : ByteArray)] : List ByteArray)) := ⟨_, rfl⟩
  replace H : (if 0 ≤ a0 then (if a0 < (y236.length : Int) then (some (rdOf ByteArray.empty y236 a0)) else (none)) else (none)) = some r := by first | (rw [hy236]; with_reducible exact H) | (have H2_ := (Option.bind_some _ _).symm.trans H; rw [hy236]; with_reducible exact H2_) | (have H2_ := (Option.bind_some _ _).symm.trans H; with_reducible exact H2_) | with_reducible exact H | (rw [hy236]; exact H) | exact H
  have Ny236 := Aside0.mk hy236
  clear hy236
  by_cases c2 : 0 ≤ a0
  · rw [if_pos c2] at H
    have c2b0 : decide (0 ≤ a0) = true := decide_eq_true c2
    clear c2
    by_cases c3 : a0 < (y236.length : Int)
    · rw [if_pos c3] at H
      have c3b0 : decide (a0 < (y236.length : Int)) = true := decide_eq_true c3
      clear c3
      obtain rfl := Option.some.inj H
      go_enter Tryd.func72, Tryd.ntmps72
      go_wp2_with (first | ((with_reducible refine gate_dst (N := 3) rfl ?_); refine Kd.R_lit Kd.string _ 9 ?hg (N := 3) ?hd (xs := ([(⟨#[69, 52, 68, 49, 50, 70, 66, 56, 51, 65, 54, 67, 53, 57, 48, 55, 48, 70, 55, 52, 69, 50, 68, 49, 65, 54, 67, 66, 57, 53, 51, 56, 52, 49, 69, 56, 68, 54, 50, 66, 70, 67, 57, 55, 51, 65, 53, 48, 70, 67, 56, 50, 52, 57, 49, 55, 53, 66, 51, 69, 65, 48, 54, 68]⟩ : ByteArray), (⟨#[70, 49, 56, 69, 54, 66, 51, 52, 57, 55, 50, 68, 67, 48, 53, 65, 51, 68, 52, 55, 70, 50, 56, 69, 67, 48, 49, 65, 54, 57, 66, 53, 48, 69, 55, 66, 65, 52, 68, 49, 53, 56, 67, 54, 57, 51, 50, 70, 68, 56, 65, 49, 51, 70, 52, 50, 66, 54, 55, 67, 48, 53, 69, 57]⟩ : ByteArray), (⟨#[65, 48, 57, 69, 54, 51, 70, 53, 49, 68, 67, 55, 66, 52, 50, 56, 68, 55, 48, 57, 51, 52, 54, 65, 50, 56, 53, 69, 67, 66, 70, 49, 68, 54, 52, 57, 56, 70, 51, 48, 66, 49, 50, 67, 53, 65, 69, 55, 49, 65, 68, 48, 54, 57, 56, 55, 52, 70, 69, 51, 66, 53, 50, 67]⟩ : ByteArray), (⟨#[55, 68, 69, 51, 48, 54, 57, 65, 49, 50, 56, 53, 66, 67, 52, 70, 68, 56, 66, 53, 54, 70, 48, 51, 52, 55, 50, 67, 49, 65, 69, 57, 65, 54, 57, 48, 67, 66, 55, 68, 70, 49, 51, 69, 53, 50, 56, 52, 51, 70, 48, 54, 65, 49, 68, 56, 57, 52, 53, 66, 67, 55, 50, 69]⟩ : ByteArray), (⟨#[50, 67, 52, 49, 55, 65, 66, 54, 56, 53, 51, 70, 68, 48, 69, 57, 69, 66, 50, 67, 52, 55, 68, 49, 53, 48, 70, 65, 51, 57, 56, 54, 52, 50, 49, 66, 65, 68, 55, 56, 70, 57, 67, 53, 54, 51, 48, 69, 66, 56, 67, 55, 49, 69, 50, 68, 54, 70, 48, 57, 65, 52, 53, 51]⟩ : ByteArray), (⟨#[67, 49, 65, 70, 57, 50, 54, 56, 48, 68, 51, 52, 69, 55, 53, 66, 65, 70, 52, 50, 55, 67, 57, 53, 54, 49, 68, 69, 48, 66, 51, 56, 57, 69, 70, 53, 50, 56, 67, 51, 55, 48, 52, 65, 49, 68, 66, 54, 52, 51, 50, 67, 57, 53, 70, 65, 66, 69, 49, 55, 54, 48, 56, 68]⟩ : ByteArray), (⟨#[52, 66, 50, 69, 70, 48, 56, 68, 51, 67, 57, 55, 53, 65, 54, 49, 68, 48, 66, 55, 52, 57, 49, 65, 69, 51, 53, 67, 50, 70, 56, 54, 49, 52, 66, 68, 67, 51, 55, 69, 65, 70, 54, 56, 48, 53, 57, 50, 54, 66, 68, 56, 49, 52, 65, 55, 57, 53, 48, 70, 69, 50, 51, 67]⟩ : ByteArray), (⟨#[68, 50, 56, 52, 54, 70, 66, 49, 65, 57, 51, 69, 53, 48, 67, 55, 49, 70, 68, 56, 65, 51, 55, 52, 67, 53, 54, 66, 48, 69, 57, 50, 55, 66, 52, 49, 57, 67, 69, 50, 48, 54, 65, 68, 70, 51, 53, 56, 50, 49, 69, 55, 52, 65, 56, 68, 70, 67, 57, 48, 51, 53, 54, 66]⟩ : ByteArray)] : List ByteArray)) (inner := [.string (⟨#[69, 52, 68, 49, 50, 70, 66, 56, 51, 65, 54, 67, 53, 57, 48, 55, 48, 70, 55, 52, 69, 50, 68, 49, 65, 54, 67, 66, 57, 53, 51, 56, 52, 49, 69, 56, 68, 54, 50, 66, 70, 67, 57, 55, 51, 65, 53, 48, 70, 67, 56, 50, 52, 57, 49, 55, 53, 66, 51, 69, 65, 48, 54, 68]⟩ : ByteArray), .string (⟨#[70, 49, 56, 69, 54, 66, 51, 52, 57, 55, 50, 68, 67, 48, 53, 65, 51, 68, 52, 55, 70, 50, 56, 69, 67, 48, 49, 65, 54, 57, 66, 53, 48, 69, 55, 66, 65, 52, 68, 49, 53, 56, 67, 54, 57, 51, 50, 70, 68, 56, 65, 49, 51, 70, 52, 50, 66, 54, 55, 67, 48, 53, 69, 57]⟩ : ByteArray), .string (⟨#[65, 48, 57, 69, 54, 51, 70, 53, 49, 68, 67, 55, 66, 52, 50, 56, 68, 55, 48, 57, 51, 52, 54, 65, 50, 56, 53, 69, 67, 66, 70, 49, 68, 54, 52, 57, 56, 70, 51, 48, 66, 49, 50, 67, 53, 65, 69, 55, 49, 65, 68, 48, 54, 57, 56, 55, 52, 70, 69, 51, 66, 53, 50, 67]⟩ : ByteArray), .string (⟨#[55, 68, 69, 51, 48, 54, 57, 65, 49, 50, 56, 53, 66, 67, 52, 70, 68, 56, 66, 53, 54, 70, 48, 51, 52, 55, 50, 67, 49, 65, 69, 57, 65, 54, 57, 48, 67, 66, 55, 68, 70, 49, 51, 69, 53, 50, 56, 52, 51, 70, 48, 54, 65, 49, 68, 56, 57, 52, 53, 66, 67, 55, 50, 69]⟩ : ByteArray), .string (⟨#[50, 67, 52, 49, 55, 65, 66, 54, 56, 53, 51, 70, 68, 48, 69, 57, 69, 66, 50, 67, 52, 55, 68, 49, 53, 48, 70, 65, 51, 57, 56, 54, 52, 50, 49, 66, 65, 68, 55, 56, 70, 57, 67, 53, 54, 51, 48, 69, 66, 56, 67, 55, 49, 69, 50, 68, 54, 70, 48, 57, 65, 52, 53, 51]⟩ : ByteArray), .string (⟨#[67, 49, 65, 70, 57, 50, 54, 56, 48, 68, 51, 52, 69, 55, 53, 66, 65, 70, 52, 50, 55, 67, 57, 53, 54, 49, 68, 69, 48, 66, 51, 56, 57, 69, 70, 53, 50, 56, 67, 51, 55, 48, 52, 65, 49, 68, 66, 54, 52, 51, 50, 67, 57, 53, 70, 65, 66, 69, 49, 55, 54, 48, 56, 68]⟩ : ByteArray), .string (⟨#[52, 66, 50, 69, 70, 48, 56, 68, 51, 67, 57, 55, 53, 65, 54, 49, 68, 48, 66, 55, 52, 57, 49, 65, 69, 51, 53, 67, 50, 70, 56, 54, 49, 52, 66, 68, 67, 51, 55, 69, 65, 70, 54, 56, 48, 53, 57, 50, 54, 66, 68, 56, 49, 52, 65, 55, 57, 53, 48, 70, 69, 50, 51, 67]⟩ : ByteArray), .string (⟨#[68, 50, 56, 52, 54, 70, 66, 49, 65, 57, 51, 69, 53, 48, 67, 55, 49, 70, 68, 56, 65, 51, 55, 52, 67, 53, 54, 66, 48, 69, 57, 50, 55, 66, 52, 49, 57, 67, 69, 50, 48, 54, 65, 68, 70, 51, 53, 56, 50, 49, 69, 55, 52, 65, 56, 68, 70, 67, 57, 48, 51, 53, 54, 66]⟩ : ByteArray)]) (ok := fun _ => True) (okp := fun _ => True) ?hr ?hp (fun _ hk => hk) trivial (Below.refl _ _) (Nat.le_refl _) (by simp) ?_; (case hd => rfl); (case hg => rfl); (case hr => first | (go_simp; done) | (go_simp; rfl)); (case hp => exact (Reps.one (show Kd.M Kd.string _ _ _ (⟨#[69, 52, 68, 49, 50, 70, 66, 56, 51, 65, 54, 67, 53, 57, 48, 55, 48, 70, 55, 52, 69, 50, 68, 49, 65, 54, 67, 66, 57, 53, 51, 56, 52, 49, 69, 56, 68, 54, 50, 66, 70, 67, 57, 55, 51, 65, 53, 48, 70, 67, 56, 50, 52, 57, 49, 55, 53, 66, 51, 69, 65, 48, 54, 68]⟩ : ByteArray) [.string (⟨#[69, 52, 68, 49, 50, 70, 66, 56, 51, 65, 54, 67, 53, 57, 48, 55, 48, 70, 55, 52, 69, 50, 68, 49, 65, 54, 67, 66, 57, 53, 51, 56, 52, 49, 69, 56, 68, 54, 50, 66, 70, 67, 57, 55, 51, 65, 53, 48, 70, 67, 56, 50, 52, 57, 49, 55, 53, 66, 51, 69, 65, 48, 54, 68]⟩ : ByteArray)] from rfl) (Reps.one (show Kd.M Kd.string _ _ _ (⟨#[70, 49, 56, 69, 54, 66, 51, 52, 57, 55, 50, 68, 67, 48, 53, 65, 51, 68, 52, 55, 70, 50, 56, 69, 67, 48, 49, 65, 54, 57, 66, 53, 48, 69, 55, 66, 65, 52, 68, 49, 53, 56, 67, 54, 57, 51, 50, 70, 68, 56, 65, 49, 51, 70, 52, 50, 66, 54, 55, 67, 48, 53, 69, 57]⟩ : ByteArray) [.string (⟨#[70, 49, 56, 69, 54, 66, 51, 52, 57, 55, 50, 68, 67, 48, 53, 65, 51, 68, 52, 55, 70, 50, 56, 69, 67, 48, 49, 65, 54, 57, 66, 53, 48, 69, 55, 66, 65, 52, 68, 49, 53, 56, 67, 54, 57, 51, 50, 70, 68, 56, 65, 49, 51, 70, 52, 50, 66, 54, 55, 67, 48, 53, 69, 57]⟩ : ByteArray)] from rfl) (Reps.one (show Kd.M Kd.string _ _ _ (⟨#[65, 48, 57, 69, 54, 51, 70, 53, 49, 68, 67, 55, 66, 52, 50, 56, 68, 55, 48, 57, 51, 52, 54, 65, 50, 56, 53, 69, 67, 66, 70, 49, 68, 54, 52, 57, 56, 70, 51, 48, 66, 49, 50, 67, 53, 65, 69, 55, 49, 65, 68, 48, 54, 57, 56, 55, 52, 70, 69, 51, 66, 53, 50, 67]⟩ : ByteArray) [.string (⟨#[65, 48, 57, 69, 54, 51, 70, 53, 49, 68, 67, 55, 66, 52, 50, 56, 68, 55, 48, 57, 51, 52, 54, 65, 50, 56, 53, 69, 67, 66, 70, 49, 68, 54, 52, 57, 56, 70, 51, 48, 66, 49, 50, 67, 53, 65, 69, 55, 49, 65, 68, 48, 54, 57, 56, 55, 52, 70, 69, 51, 66, 53, 50, 67]⟩ : ByteArray)] from rfl) (Reps.one (show Kd.M Kd.string _ _ _ (⟨#[55, 68, 69, 51, 48, 54, 57, 65, 49, 50, 56, 53, 66, 67, 52, 70, 68, 56, 66, 53, 54, 70, 48, 51, 52, 55, 50, 67, 49, 65, 69, 57, 65, 54, 57, 48, 67, 66, 55, 68, 70, 49, 51, 69, 53, 50, 56, 52, 51, 70, 48, 54, 65, 49, 68, 56, 57, 52, 53, 66, 67, 55, 50, 69]⟩ : ByteArray) [.string (⟨#[55, 68, 69, 51, 48, 54, 57, 65, 49, 50, 56, 53, 66, 67, 52, 70, 68, 56, 66, 53, 54, 70, 48, 51, 52, 55, 50, 67, 49, 65, 69, 57, 65, 54, 57, 48, 67, 66, 55, 68, 70, 49, 51, 69, 53, 50, 56, 52, 51, 70, 48, 54, 65, 49, 68, 56, 57, 52, 53, 66, 67, 55, 50, 69]⟩ : ByteArray)] from rfl) (Reps.one (show Kd.M Kd.string _ _ _ (⟨#[50, 67, 52, 49, 55, 65, 66, 54, 56, 53, 51, 70, 68, 48, 69, 57, 69, 66, 50, 67, 52, 55, 68, 49, 53, 48, 70, 65, 51, 57, 56, 54, 52, 50, 49, 66, 65, 68, 55, 56, 70, 57, 67, 53, 54, 51, 48, 69, 66, 56, 67, 55, 49, 69, 50, 68, 54, 70, 48, 57, 65, 52, 53, 51]⟩ : ByteArray) [.string (⟨#[50, 67, 52, 49, 55, 65, 66, 54, 56, 53, 51, 70, 68, 48, 69, 57, 69, 66, 50, 67, 52, 55, 68, 49, 53, 48, 70, 65, 51, 57, 56, 54, 52, 50, 49, 66, 65, 68, 55, 56, 70, 57, 67, 53, 54, 51, 48, 69, 66, 56, 67, 55, 49, 69, 50, 68, 54, 70, 48, 57, 65, 52, 53, 51]⟩ : ByteArray)] from rfl) (Reps.one (show Kd.M Kd.string _ _ _ (⟨#[67, 49, 65, 70, 57, 50, 54, 56, 48, 68, 51, 52, 69, 55, 53, 66, 65, 70, 52, 50, 55, 67, 57, 53, 54, 49, 68, 69, 48, 66, 51, 56, 57, 69, 70, 53, 50, 56, 67, 51, 55, 48, 52, 65, 49, 68, 66, 54, 52, 51, 50, 67, 57, 53, 70, 65, 66, 69, 49, 55, 54, 48, 56, 68]⟩ : ByteArray) [.string (⟨#[67, 49, 65, 70, 57, 50, 54, 56, 48, 68, 51, 52, 69, 55, 53, 66, 65, 70, 52, 50, 55, 67, 57, 53, 54, 49, 68, 69, 48, 66, 51, 56, 57, 69, 70, 53, 50, 56, 67, 51, 55, 48, 52, 65, 49, 68, 66, 54, 52, 51, 50, 67, 57, 53, 70, 65, 66, 69, 49, 55, 54, 48, 56, 68]⟩ : ByteArray)] from rfl) (Reps.one (show Kd.M Kd.string _ _ _ (⟨#[52, 66, 50, 69, 70, 48, 56, 68, 51, 67, 57, 55, 53, 65, 54, 49, 68, 48, 66, 55, 52, 57, 49, 65, 69, 51, 53, 67, 50, 70, 56, 54, 49, 52, 66, 68, 67, 51, 55, 69, 65, 70, 54, 56, 48, 53, 57, 50, 54, 66, 68, 56, 49, 52, 65, 55, 57, 53, 48, 70, 69, 50, 51, 67]⟩ : ByteArray) [.string (⟨#[52, 66, 50, 69, 70, 48, 56, 68, 51, 67, 57, 55, 53, 65, 54, 49, 68, 48, 66, 55, 52, 57, 49, 65, 69, 51, 53, 67, 50, 70, 56, 54, 49, 52, 66, 68, 67, 51, 55, 69, 65, 70, 54, 56, 48, 53, 57, 50, 54, 66, 68, 56, 49, 52, 65, 55, 57, 53, 48, 70, 69, 50, 51, 67]⟩ : ByteArray)] from rfl) (Reps.one (show Kd.M Kd.string _ _ _ (⟨#[68, 50, 56, 52, 54, 70, 66, 49, 65, 57, 51, 69, 53, 48, 67, 55, 49, 70, 68, 56, 65, 51, 55, 52, 67, 53, 54, 66, 48, 69, 57, 50, 55, 66, 52, 49, 57, 67, 69, 50, 48, 54, 65, 68, 70, 51, 53, 56, 50, 49, 69, 55, 52, 65, 56, 68, 70, 67, 57, 48, 51, 53, 54, 66]⟩ : ByteArray) [.string (⟨#[68, 50, 56, 52, 54, 70, 66, 49, 65, 57, 51, 69, 53, 48, 67, 55, 49, 70, 68, 56, 65, 51, 55, 52, 67, 53, 54, 66, 48, 69, 57, 50, 55, 66, 52, 49, 57, 67, 69, 50, 48, 54, 65, 68, 70, 51, 53, 56, 50, 49, 69, 55, 52, 65, 56, 68, 70, 67, 57, 48, 51, 53, 54, 66]⟩ : ByteArray)] from rfl) (Reps.none _ _)))))))))); intro v237 w4 ho5 hb hg_ hnew_; clear hg_ hnew_; (first | rw [← Ny236.out] at ho5 | (simp only [Int.reduceToNat] at ho5; rw [← Ny236.out] at ho5)); have n0_ := Aside0.mk (Kd.R_lower ho5 (below_size (by repeat (first | (with_reducible first | exact HB.out | apply below_alloc | apply pw_below_drewN | apply below_drew1) | exact HB.out)))); have n1_ := Aside0.mk (below_step (by repeat (first | (with_reducible first | exact HB.out | apply below_alloc | apply pw_below_drewN | apply below_drew1) | exact HB.out)) hb); clear HB; have HO238 := n0_; have HB := n1_; clear n0_ n1_; clear hb ho5; obtain ⟨Ao6, co6, eo6⟩ := Kd.R_slice HO238.out; subst eo6; have p239 : 0 ≤ (a0 : Int) := of_decide_eq_true (by first | (with_reducible assumption) | assumption); have q239 : a0 < (y236.length : Int) := of_decide_eq_true (by first | (with_reducible assumption) | assumption); obtain ⟨ad239, e239, hx239_0⟩ := Kd.at_string (Kd.R_reads' HO238.out).2.2 a0 p239 q239; cases e239; replace p239 := eq_true p239; replace q239 := eq_true q239))
      go_ret
      exact ⟨by first | rfl | (simp [errW_none, errW_some] <;> rfl) | (simp [*, errW_none, errW_some] <;> rfl), by repeat (first | (with_reducible first | exact HB.out | apply below_alloc | apply pw_below_drewN | apply below_drew1) | exact HB.out)⟩
    · rw [if_neg c3] at H
      exact absurd H (by simp)
  · rw [if_neg c2] at H
    exact absurd H (by simp)

/-! ### spec_l1P: function 73 -/
def spec_l1P.f  : Option (List Int) := some (([16, 7, 20, 21, 29, 12, 28, 17, 1, 15, 23, 26, 5, 18, 31, 10, 2, 8, 24, 14, 32, 27, 3, 9, 19, 13, 30, 6, 22, 11, 4, 25] : List Int))
set_option maxHeartbeats 8000000 in
set_option maxRecDepth 100000 in
theorem spec_l1P.calls  (r : List Int) (w : World) (h : spec_l1P.f  = some r) :
    Calls Tryd.prog 73 #[] w fun e w' => ∃ v0_ : Value, e = .returned (v0_) ∧ Kd.R (Kd.int .i64) 3 w' w.heap.size (fun _ => True) v0_ r ∧ Below w.heap.size w w' := by
  have HB := Aside0.mk (Below.refl w.heap.size w)
  have H : (some (([16, 7, 20, 21, 29, 12, 28, 17, 1, 15, 23, 26, 5, 18, 31, 10, 2, 8, 24, 14, 32, 27, 3, 9, 19, 13, 30, 6, 22, 11, 4, 25] : List Int))) = some r := h
  clear h
  obtain ⟨y240, hy240⟩ : ∃ y_ : List Int, y_ = (([16, 7, 20, 21, 29, 12, 28, 17, 1, 15, 23, 26, 5, 18, 31, 10, 2, 8, 24, 14, 32, 27, 3, 9, 19, 13, 30, 6, 22, 11, 4, 25] : List Int)) := ⟨_, rfl⟩
  replace H : (some y240) = some r := by first | (rw [hy240]; with_reducible exact H) | (have H2_ := (Option.bind_some _ _).symm.trans H; rw [hy240]; with_reducible exact H2_) | (have H2_ := (Option.bind_some _ _).symm.trans H; with_reducible exact H2_) | with_reducible exact H | (rw [hy240]; exact H) | exact H
  have Ny240 := Aside0.mk hy240
  clear hy240
  obtain rfl := Option.some.inj H
  go_enter Tryd.func73, Tryd.ntmps73
  go_wp2_with (first | ((with_reducible refine gate_dst (N := 1) rfl ?_); refine Kd.R_lit (Kd.int .i64) _ 3 ?hg (N := 1) ?hd (xs := ([16, 7, 20, 21, 29, 12, 28, 17, 1, 15, 23, 26, 5, 18, 31, 10, 2, 8, 24, 14, 32, 27, 3, 9, 19, 13, 30, 6, 22, 11, 4, 25] : List Int)) (inner := [.int .i64 16, .int .i64 7, .int .i64 20, .int .i64 21, .int .i64 29, .int .i64 12, .int .i64 28, .int .i64 17, .int .i64 1, .int .i64 15, .int .i64 23, .int .i64 26, .int .i64 5, .int .i64 18, .int .i64 31, .int .i64 10, .int .i64 2, .int .i64 8, .int .i64 24, .int .i64 14, .int .i64 32, .int .i64 27, .int .i64 3, .int .i64 9, .int .i64 19, .int .i64 13, .int .i64 30, .int .i64 6, .int .i64 22, .int .i64 11, .int .i64 4, .int .i64 25]) (ok := fun _ => True) (okp := fun _ => True) ?hr ?hp (fun _ hk => hk) trivial (Below.refl _ _) (Nat.le_refl _) (by simp) ?_; (case hd => rfl); (case hg => rfl); (case hr => first | (go_simp; done) | (go_simp; rfl)); (case hp => exact (Reps.one (show Kd.M (Kd.int .i64) _ _ _ 16 [.int .i64 16] from rfl) (Reps.one (show Kd.M (Kd.int .i64) _ _ _ 7 [.int .i64 7] from rfl) (Reps.one (show Kd.M (Kd.int .i64) _ _ _ 20 [.int .i64 20] from rfl) (Reps.one (show Kd.M (Kd.int .i64) _ _ _ 21 [.int .i64 21] from rfl) (Reps.one (show Kd.M (Kd.int .i64) _ _ _ 29 [.int .i64 29] from rfl) (Reps.one (show Kd.M (Kd.int .i64) _ _ _ 12 [.int .i64 12] from rfl) (Reps.one (show Kd.M (Kd.int .i64) _ _ _ 28 [.int .i64 28] from rfl) (Reps.one (show Kd.M (Kd.int .i64) _ _ _ 17 [.int .i64 17] from rfl) (Reps.one (show Kd.M (Kd.int .i64) _ _ _ 1 [.int .i64 1] from rfl) (Reps.one (show Kd.M (Kd.int .i64) _ _ _ 15 [.int .i64 15] from rfl) (Reps.one (show Kd.M (Kd.int .i64) _ _ _ 23 [.int .i64 23] from rfl) (Reps.one (show Kd.M (Kd.int .i64) _ _ _ 26 [.int .i64 26] from rfl) (Reps.one (show Kd.M (Kd.int .i64) _ _ _ 5 [.int .i64 5] from rfl) (Reps.one (show Kd.M (Kd.int .i64) _ _ _ 18 [.int .i64 18] from rfl) (Reps.one (show Kd.M (Kd.int .i64) _ _ _ 31 [.int .i64 31] from rfl) (Reps.one (show Kd.M (Kd.int .i64) _ _ _ 10 [.int .i64 10] from rfl) (Reps.one (show Kd.M (Kd.int .i64) _ _ _ 2 [.int .i64 2] from rfl) (Reps.one (show Kd.M (Kd.int .i64) _ _ _ 8 [.int .i64 8] from rfl) (Reps.one (show Kd.M (Kd.int .i64) _ _ _ 24 [.int .i64 24] from rfl) (Reps.one (show Kd.M (Kd.int .i64) _ _ _ 14 [.int .i64 14] from rfl) (Reps.one (show Kd.M (Kd.int .i64) _ _ _ 32 [.int .i64 32] from rfl) (Reps.one (show Kd.M (Kd.int .i64) _ _ _ 27 [.int .i64 27] from rfl) (Reps.one (show Kd.M (Kd.int .i64) _ _ _ 3 [.int .i64 3] from rfl) (Reps.one (show Kd.M (Kd.int .i64) _ _ _ 9 [.int .i64 9] from rfl) (Reps.one (show Kd.M (Kd.int .i64) _ _ _ 19 [.int .i64 19] from rfl) (Reps.one (show Kd.M (Kd.int .i64) _ _ _ 13 [.int .i64 13] from rfl) (Reps.one (show Kd.M (Kd.int .i64) _ _ _ 30 [.int .i64 30] from rfl) (Reps.one (show Kd.M (Kd.int .i64) _ _ _ 6 [.int .i64 6] from rfl) (Reps.one (show Kd.M (Kd.int .i64) _ _ _ 22 [.int .i64 22] from rfl) (Reps.one (show Kd.M (Kd.int .i64) _ _ _ 11 [.int .i64 11] from rfl) (Reps.one (show Kd.M (Kd.int .i64) _ _ _ 4 [.int .i64 4] from rfl) (Reps.one (show Kd.M (Kd.int .i64) _ _ _ 25 [.int .i64 25] from rfl) (Reps.none _ _)))))))))))))))))))))))))))))))))); intro v241 w1 ho2 hb hg_ hnew_; clear hg_ hnew_; (first | rw [← Ny240.out] at ho2 | (simp only [Int.reduceToNat] at ho2; rw [← Ny240.out] at ho2)); have n0_ := Aside0.mk (Kd.R_lower ho2 (below_size (by repeat (first | (with_reducible first | exact HB.out | apply below_alloc | apply pw_below_drewN | apply below_drew1) | exact HB.out)))); have n1_ := Aside0.mk (below_step (by repeat (first | (with_reducible first | exact HB.out | apply below_alloc | apply pw_below_drewN | apply below_drew1) | exact HB.out)) hb); clear HB; have HO242 := n0_; have HB := n1_; clear n0_ n1_; clear hb ho2))
  go_ret
  exact ⟨_, by first | rfl | (simp [errW_none, errW_some] <;> rfl) | (simp [*, errW_none, errW_some] <;> rfl), by (with_reducible repeat (first | apply Kd.R_alloc | apply Kd.R_drewN | apply Kd.R_drew)); exact HO242.out, by repeat (first | (with_reducible first | exact HB.out | apply below_alloc | apply pw_below_drewN | apply below_drew1) | exact HB.out)⟩

-- TAKEN: function 46 (spec_l1Round)

/-! ### spec_l1Unbits: function 48 -/
def spec_l1Unbits.l0 : Nat → List Int → List Int → Int → Int → Option (List Int)
  | 0, _, _, _, _ => none
  | k + 1, x3, x10, x11, x12 => if x12 < x11 then (if 0 ≤ x12 then (if x12 < (x10.length : Int) then (if 0 ≤ (wrap64 (Int.tdiv x12 8)) then (if (wrap64 (Int.tdiv x12 8)) < (x3.length : Int) then (spec_l1Unbits.l0 k (x3.set ((wrap64 (Int.tdiv x12 8)) : Int).toNat (Go.bits .or .u8 (((rd x3 (wrap64 (Int.tdiv x12 8))) * 2) % 256) (rd x10 x12))) x10 x11 (wrap64 (x12 + 1))) else (none)) else (none)) else (none)) else (none)) else (some x3)
def spec_l1Unbits.f (k : Nat) (l0 : List Int) : Option (List Int) := if 0 ≤ (wrap64 ((l0.length : Int) / 8)) then (if (wrap64 ((l0.length : Int) / 8) : Int).toNat ≤ 281474976710656 then (spec_l1Unbits.l0 k (List.replicate (wrap64 ((l0.length : Int) / 8) : Int).toNat 0) l0 (l0.length : Int) 0) else (none)) else (none)
theorem spec_l1Unbits.mono_l : ∀ k, (∀ y0 y1 y2 y3, LeO (spec_l1Unbits.l0 k y0 y1 y2 y3) (spec_l1Unbits.l0 (k + 1) y0 y1 y2 y3))
  | 0 => fun _ _ _ _ r h => by simp [spec_l1Unbits.l0] at h
  | k + 1 => by
    have ih0 := spec_l1Unbits.mono_l k
    · intro y0 y1 y2 y3
      unfold spec_l1Unbits.l0
      repeat' first
      | (with_reducible exact ih0 _ _ _ _)
      | (with_reducible exact LeO.refl _)
      | (with_reducible exact LeO.none _)
      | (with_reducible refine LeO.ite ?_ ?_)
      | (with_reducible refine LeO.bind ?_ (fun _ => ?_))
      | exact ih0 _ _ _ _
      | exact LeO.none _
      | refine LeO.ite ?_ ?_
      | refine LeO.bind ?_ (fun _ => ?_)
theorem spec_l1Unbits.mono : ∀ a0 k, LeO (spec_l1Unbits.f k a0) (spec_l1Unbits.f (k + 1) a0) := by
  intro a0 k
  have ih0 := spec_l1Unbits.mono_l k
  unfold spec_l1Unbits.f
  repeat' first
      | (with_reducible exact ih0 _ _ _ _)
      | (with_reducible exact LeO.refl _)
      | (with_reducible exact LeO.none _)
      | (with_reducible refine LeO.ite ?_ ?_)
      | (with_reducible refine LeO.bind ?_ (fun _ => ?_))
      | exact ih0 _ _ _ _
      | exact LeO.none _
      | refine LeO.ite ?_ ?_
      | refine LeO.bind ?_ (fun _ => ?_)
set_option maxHeartbeats 8000000 in
set_option maxRecDepth 100000 in
theorem spec_l1Unbits.calls (k : Nat) (A0 : Option Addr) (c0 : Nat) (l0 : List Int) (r : List Int) (w : World) (hr0 : Kd.C (Kd.int .u8) w A0 l0.length l0) (hc0 : l0.length ≤ c0) (h : spec_l1Unbits.f k l0 = some r) :
    Calls Tryd.prog 48 #[.slice A0 l0.length c0] w fun e w' => ∃ v0_ : Value, e = .returned (v0_) ∧ Kd.R (Kd.int .u8) 5 w' w.heap.size (fun _ => True) v0_ r ∧ Below w.heap.size w w' := by
  have HR0 := Aside0.mk hr0
  have HC0 := Aside0.mk hc0
  clear hr0 hc0
  have HB := Aside0.mk (Below.refl w.heap.size w)
  have H : (if 0 ≤ (wrap64 ((l0.length : Int) / 8)) then (if (wrap64 ((l0.length : Int) / 8) : Int).toNat ≤ 281474976710656 then (spec_l1Unbits.l0 k (List.replicate (wrap64 ((l0.length : Int) / 8) : Int).toNat 0) l0 (l0.length : Int) 0) else (none)) else (none)) = some r := h
  clear h
  obtain ⟨ji2, hji2⟩ : ∃ j_ : Int, (wrap64 ((l0.length : Int) / 8)) = j_ := ⟨_, rfl⟩
  replace H : (if 0 ≤ (ji2) then (if (ji2 : Int).toNat ≤ 281474976710656 then (spec_l1Unbits.l0 k (List.replicate (ji2 : Int).toNat 0) l0 (l0.length : Int) 0) else (none)) else (none)) = some r := by first | (rw [hji2] at H; exact H) | (simp only [hji2] at H ⊢; exact H)
  have hji2w : (IntKind.i64.wrap ((l0.length : Int) / 8)) = ji2 := (i64_w _).trans hji2
  by_cases c3 : 0 ≤ (ji2)
  · rw [if_pos c3] at H
    have c3b0 := eq_true c3
    have c3b1 : decide (0 ≤ (ji2)) = true := decide_eq_true c3
    clear c3
    by_cases c4 : (ji2 : Int).toNat ≤ 281474976710656
    · rw [if_pos c4] at H
      have c4b0 := eq_true c4
      have c4b1 : decide ((ji2 : Int).toNat ≤ 281474976710656) = true := decide_eq_true c4
      clear c4
      obtain ⟨y243, hy243⟩ : ∃ y_ : List Int, y_ = (List.replicate (ji2 : Int).toNat 0) := ⟨_, rfl⟩
      replace H : (spec_l1Unbits.l0 k y243 l0 (l0.length : Int) 0) = some r := by first | (rw [hy243]; with_reducible exact H) | (have H2_ := (Option.bind_some _ _).symm.trans H; rw [hy243]; with_reducible exact H2_) | (have H2_ := (Option.bind_some _ _).symm.trans H; with_reducible exact H2_) | with_reducible exact H | (rw [hy243]; exact H) | exact H
      have Ny243 := Aside0.mk hy243
      clear hy243
      have H' := Aside0.mk H
      clear H
      go_enter Tryd.func48, Tryd.ntmps48
      go_wp2_with (first | ((with_reducible refine gate_dst (N := 9) rfl ?_); refine Kd.R_make (Kd.int .u8) _ 5 rfl (N := 9) rfl 22 _ _ rfl ji2 rfl rfl Tryd.underlying22 (.int .u8 0) 1 info5 rfl (by decide) (by omega) 0 (ok := fun _ => True) (okp := fun _ => True) rfl (fun _ hk => hk) trivial (of_decide_eq_true (by first | (with_reducible assumption) | assumption)) (Nat.le_trans (Nat.mul_le_mul_right _ (of_decide_eq_true (by first | (with_reducible assumption) | assumption) : ji2.toNat ≤ 281474976710656)) (by omega)) (Below.refl _ _) (Nat.le_refl _) ?_; intro v244 w5 ho6 hb hg_ hnew_; clear hg_ hnew_; (first | rw [← Ny243.out] at ho6 | (simp only [Int.reduceToNat] at ho6; rw [← Ny243.out] at ho6)); have n0_ := Aside0.mk (Kd.R_lower ho6 (below_size (by repeat (first | (with_reducible first | exact HB.out | apply below_alloc | apply pw_below_drewN | apply below_drew1) | exact HB.out)))); have n1_ := Aside0.mk (below_step (by repeat (first | (with_reducible first | exact HB.out | apply below_alloc | apply pw_below_drewN | apply below_drew1) | exact HB.out)) hb); clear HB; have HO245 := n0_; have HB := n1_; clear n0_ n1_; clear hb ho6))
      go_loopg [12] k (fun kq v12 w' => ∃ (x3_1 : List Int) (x12_1 : Int), v12 = .int .i64 x12_1 ∧ Aside0 (spec_l1Unbits.l0 kq x3_1 l0 (l0.length : Int) x12_1 = some r) ∧ Aside0 (kq ≤ k) ∧ Aside0 (Kd.R (Kd.int .u8) 5 w' w.heap.size (fun _ => True) v244 x3_1) ∧ Aside0 (Below w.heap.size w w'))
      case atStart => exact ⟨(y243), (0), (by first | rfl | (simp; done) | (simp [*]; done)), H', ⟨Nat.le_refl _⟩, ⟨by (with_reducible repeat (first | apply Kd.R_alloc | apply Kd.R_drewN | apply Kd.R_drew)); exact HO245.out⟩, ⟨by repeat (first | (with_reducible first | exact HB.out | apply below_alloc | apply pw_below_drewN | apply below_drew1) | exact HB.out)⟩⟩
      case round =>
        clear H'
        try clear p2
        try clear c3
        try clear c3b0
        try clear c3b1
        try clear c4
        try clear c4b0
        try clear c4b1
        try clear p6
        obtain ⟨x3_1, x12_1, rfl, HA, HK1, HO_3, HB⟩ := hrel
        cases gk with
        | zero => exact absurd HA.out (by simp [spec_l1Unbits.l0])
        | succ k1 =>
          have H := HA.out
          clear HA
          simp only [spec_l1Unbits.l0] at H
          by_cases c7 : x12_1 < (l0.length : Int)
          · rw [if_pos c7] at H
            have c7b0 : decide (x12_1 < (l0.length : Int)) = true := decide_eq_true c7
            clear c7
            by_cases c8 : 0 ≤ x12_1
            · rw [if_pos c8] at H
              have c8b0 : decide (0 ≤ x12_1) = true := decide_eq_true c8
              clear c8
              by_cases c9 : x12_1 < (l0.length : Int)
              · rw [if_pos c9] at H
                have c9b0 : decide (x12_1 < (l0.length : Int)) = true := decide_eq_true c9
                clear c9
                obtain ⟨ji10, hji10⟩ : ∃ j_ : Int, (wrap64 (Int.tdiv x12_1 8)) = j_ := ⟨_, rfl⟩
                replace H : (if 0 ≤ (ji10) then (if (ji10) < (x3_1.length : Int) then (spec_l1Unbits.l0 k1 (x3_1.set ((ji10) : Int).toNat (Go.bits .or .u8 (((rd x3_1 (ji10)) * 2) % 256) (rd l0 x12_1))) l0 (l0.length : Int) (wrap64 (x12_1 + 1))) else (none)) else (none)) = some r := by first | (rw [hji10] at H; exact H) | (simp only [hji10] at H ⊢; exact H)
                have hji10w : (IntKind.i64.wrap (Int.tdiv x12_1 8)) = ji10 := (i64_w _).trans hji10
                by_cases c11 : 0 ≤ (ji10)
                · rw [if_pos c11] at H
                  have c11b0 : decide (0 ≤ (ji10)) = true := decide_eq_true c11
                  clear c11
                  by_cases c12 : (ji10) < (x3_1.length : Int)
                  · rw [if_pos c12] at H
                    have c12b0 : decide ((ji10) < (x3_1.length : Int)) = true := decide_eq_true c12
                    clear c12
                    obtain ⟨y248, hy248⟩ : ∃ y_ : List Int, y_ = (x3_1.set ((ji10) : Int).toNat (Go.bits .or .u8 (((rd x3_1 (ji10)) * 2) % 256) (rd l0 x12_1))) := ⟨_, rfl⟩
                    replace H : (spec_l1Unbits.l0 k1 y248 l0 (l0.length : Int) (wrap64 (x12_1 + 1))) = some r := by first | (rw [hy248]; with_reducible exact H) | (have H2_ := (Option.bind_some _ _).symm.trans H; rw [hy248]; with_reducible exact H2_) | (have H2_ := (Option.bind_some _ _).symm.trans H; with_reducible exact H2_) | with_reducible exact H | (rw [hy248]; exact H) | exact H
                    have Ny248 := Aside0.mk hy248
                    clear hy248
                    have H' := Aside0.mk H
                    clear H
                    have p246 : 0 ≤ (x12_1 : Int) := of_decide_eq_true (by first | (with_reducible assumption) | assumption)
                    have q246 : x12_1 < (l0.length : Int) := of_decide_eq_true (by first | (with_reducible assumption) | assumption)
                    obtain ⟨ad246, e246, hx246_0⟩ := Kd.at_int HR0.out x12_1 p246 q246
                    cases e246
                    replace hx246_0 := (HB.out.cell (World.block_lt_of_cell? w _ hx246_0)).trans hx246_0
                    replace p246 := eq_true p246
                    replace q246 := eq_true q246
                    obtain ⟨Ao14, co14, eo14⟩ := Kd.R_slice HO_3.out
                    subst eo14
                    have p247 : 0 ≤ ((ji10) : Int) := of_decide_eq_true (by first | (with_reducible assumption) | assumption)
                    have q247 : (ji10) < (x3_1.length : Int) := of_decide_eq_true (by first | (with_reducible assumption) | assumption)
                    obtain ⟨ad247, e247, hx247_0⟩ := Kd.at_int (Kd.R_reads' HO_3.out).2.2 (ji10) p247 q247
                    cases e247
                    replace p247 := eq_true p247
                    replace q247 := eq_true q247
                    have p13 : 0 ≤ ((ji10) : Int) := of_decide_eq_true (by first | (with_reducible assumption) | assumption)
                    have q13 : ((ji10) : Int) < ((x3_1.length : Int) : Int) := of_decide_eq_true (by first | (with_reducible assumption) | assumption)
                    obtain ⟨go13, co13, eo13, gb13, gl13, cl13, HG13⟩ := Kd.R_form HO_3.out (by omega)
                    (first | cases eo13 | (injection eo13 with ea_ en_ ec_; (first | subst ea_ | (injection ea_ with ea_; subst ea_)); subst ec_; clear en_))
                    have GB13 := Aside0.mk gb13
                    have GG13 := Aside0.mk HG13
                    clear gb13 gl13 HG13
                    (first | simp only [add_plain] at hx247_0 | skip)
                    obtain ⟨hx13_0, hf13_0⟩ := Kd.R_celln 0 HO_3.out ((ji10) : Int) p13 q13
                    replace p13 := eq_true p13
                    replace q13 := eq_true q13
                    have HP15 := Kd.R_putg HO_3.out ((ji10) : Int) (Go.bits .or .u8 (((rd x3_1 (ji10)) * 2) % 256) (rd l0 x12_1))
                    go_wp2_with (first | ((with_reducible refine gate_store (t := 5) (p := 28) rfl ?_); refine store_event (t := 5) (p := 28) (v := ?vo_w16) (w1 := (wr.setCell ⟨go13, ((ji10) : Int).toNat, none⟩ (.int .u8 (Go.bits .or .u8 (((rd x3_1 (ji10)) * 2) % 256) (rd l0 x12_1))))) ?hg ?ho ?hn ?hr ?_; (case ho => rfl); (case hg => rfl); (case hn => rfl); (case hr => first | (go_simp; done) | (go_simp; rfl)); intro w16 hw; have hg : wr.grownBy w16 (some go13) := (by rw [hw]; exact HP15.2); have hp_ : Kd.R (Kd.int .u8) 5 w16 w.heap.size (fun _ => True) (.slice (some ⟨go13, 0, none⟩) x3_1.length co14) y248 := (by rw [hw, Ny248.out]; exact HP15.1); clear HP15; have n0_ := Aside0.mk (hp_); have n1_ := Aside0.mk ((by rw [hw]; exact below_set (HB.out) GB13.out : Below w.heap.size w w16)); clear HO_3; clear HB; have HO_3 := n0_; have HB := n1_; clear n0_ n1_; clear hg hw hp_))
                    go_roundg k1
                    case measure => have := HK1.out; omega
                    case rel => exact ⟨(y248), (wrap64 (x12_1 + 1)), (by first | rfl | (simp; done) | (simp [*]; done)), H', ⟨by have := HK1.out; omega⟩, ⟨by (with_reducible repeat (first | apply Kd.R_alloc | apply Kd.R_drewN | apply Kd.R_drew)); exact HO_3.out⟩, ⟨by repeat (first | (with_reducible first | exact HB.out | apply below_alloc | apply pw_below_drewN | apply below_drew1) | exact HB.out)⟩⟩
                  · rw [if_neg c12] at H
                    exact absurd H (by simp)
                · rw [if_neg c11] at H
                  exact absurd H (by simp)
              · rw [if_neg c9] at H
                exact absurd H (by simp)
            · rw [if_neg c8] at H
              exact absurd H (by simp)
          · rw [if_neg c7] at H
            have c7b0 : decide (x12_1 < (l0.length : Int)) = false := decide_eq_false c7
            clear c7
            obtain rfl := Option.some.inj H
            go_wp2
            go_ret
            exact ⟨_, by first | rfl | (simp [errW_none, errW_some] <;> rfl) | (simp only [← hji2]; first | rfl | (simp [errW_none, errW_some] <;> rfl)) | (simp [*, errW_none, errW_some] <;> rfl), by (with_reducible repeat (first | apply Kd.R_alloc | apply Kd.R_drewN | apply Kd.R_drew)); exact HO_3.out, by repeat (first | (with_reducible first | exact HB.out | apply below_alloc | apply pw_below_drewN | apply below_drew1) | exact HB.out)⟩
    · rw [if_neg c4] at H
      exact absurd H (by simp)
  · rw [if_neg c3] at H
    exact absurd H (by simp)

-- NOT PRINTED: function 18 (spec_Des)

end Go.Proofs.YtbjlpdfhjapbkaaDoor.B
