/- Texts of this session and of the kit's print, put together by a program; what this claim does not use is left out. -/
import Derived.Test.YtiejallnkgllnaaKPins0
import Derived.Test.YtiejallnkgllnaaProg
import Derived.Below
import Derived.Deep.Draws
import Derived.Deep.AppendLies
import Derived.Maps.AppendAt
import Derived.OwnWalk
import Derived.Laws.BytesArg
import Derived.Laws.MakeOwn
import Derived.Laws.OwnMore
import Derived.Deep.OwnRows
import Derived.Tactics
import Derived.Lib.ConvBytes
import Derived.Laws.Slices
import Derived.WalkKit
import Derived.KernelRfl
import Derived.RowKit3
import Derived.Deep.LoopGhost
import Derived.Deep.QuietTactic
import Derived.BigQuiet
import Derived.WideLaws
import Derived.Deep.DeepCutAuto
import Derived.Deep.CutBlock
import Derived.Deep.RegionHeld3
import Derived.Laws.Rows
import Derived.Lib.AppendStr
import Derived.ArgAppend
import Derived.Laws.IdiomCopy
import Derived.OrdersHeld
import Derived.Laws.BitsLemmas
import Derived.RowKit
import Derived.WalkSpells
import Derived.Laws.CopyOwn
import Derived.Laws.BitsAllLaws
namespace Go.Proofs.Ytiejallnkgllnaa.LQ
open Go.RowKit Go.Proofs.YtiejallnkgllnaaW.PrintWords Go.Proofs.YtiejallnkgllnaaW.PrintLast Go.Proofs.YtiejallnkgllnaaW.PrintMore
attribute [local go_sem] max2_int min2_int max_two min_two max_three min_three max_four min_four   -- for this text's walks alone
set_option linter.unusedVariables false
set_option linter.unusedSimpArgs false

theorem info3 : (Try.prog.info? 3).map (fun i => (i.zero, i.size, i.bytes)) = some (some (.int .i64 0), 1, 8) := by kernel_rfl
theorem info5 : (Try.prog.info? 5).map (fun i => (i.zero, i.size, i.bytes)) = some (some (.int .u8 0), 1, 1) := by kernel_rfl
end Go.Proofs.Ytiejallnkgllnaa.LQ
namespace Go.Proofs.Ytiejallnkgllnaa.LQ
open Go.RowKit Go.Proofs.YtiejallnkgllnaaW.PrintWords Go.Proofs.YtiejallnkgllnaaW.PrintLast Go.Proofs.YtiejallnkgllnaaW.PrintMore
attribute [local go_sem] max2_int min2_int max_two min_two max_three min_three max_four min_four   -- for this text's walks alone
set_option linter.unusedVariables false
set_option linter.unusedSimpArgs false

mutual
def spec_l4Digits.j0 : Nat → ByteArray → Bool → Option (Bool)
  | 0, _, _ => none
  | k + 1, x0, x17 => if x17 = true then (some false) else (spec_l4Digits.l0 k x0 0)
def spec_l4Digits.l0 : Nat → ByteArray → Int → Option (Bool)
  | 0, _, _ => none
  | k + 1, x0, x7 => if x7 < (x0.size : Int) then (if 0 ≤ x7 then (if (bt x0 x7) < 48 then (some false) else (if (bt x0 x7) > 57 then (some false) else (spec_l4Digits.l0 k x0 (wrap64 (x7 + 1))))) else (none)) else (some true)
end
def spec_l4Digits.f (k : Nat) (a0 : ByteArray) (a1 : Int) (a2 : Int) : Option (Bool) := if (a0.size : Int) < a1 then (spec_l4Digits.j0 k a0 true) else (spec_l4Digits.j0 k a0 (decide ((a0.size : Int) > a2)))
set_option maxHeartbeats 8000000 in
set_option maxRecDepth 100000 in
theorem spec_l4Digits.calls (k : Nat) (a0 : ByteArray) (a1 : Int) (a2 : Int) (r : Bool) (w : World) (h : spec_l4Digits.f k a0 a1 a2 = some r) :
    Calls Try.prog 53 #[.string a0, .int .i64 a1, .int .i64 a2] w fun e w' => e = .returned (.bool r) ∧ Drawn0 w w' := by
  have H : (if (a0.size : Int) < a1 then (spec_l4Digits.j0 k a0 true) else (spec_l4Digits.j0 k a0 (decide ((a0.size : Int) > a2)))) = some r := h
  clear h
  have HC4 := Aside0.mk H
  clear H
  go_enter Try.func53, Try.ntmps53
  go_upto_region 1 with (fail)
  go_cut [17] (fun v17 wc => ∃ (kq : Nat) (x17_3 : Bool), v17 = .bool x17_3 ∧ Aside0 (spec_l4Digits.j0 kq a0 x17_3 = some r) ∧ Aside0 (kq ≤ k) ∧ Drawn0 w wc)
  case first =>
    have H := HC4.out
    clear HC4
    by_cases c5 : (a0.size : Int) < a1
    · rw [if_pos c5] at H
      have c5b0 : decide ((a0.size : Int) < a1) = true := decide_eq_true c5
      clear c5
      (first | rw [c5b0] | (simp only [i64_w, i32_w]; rw [c5b0]) | skip)
      have H' := Aside0.mk H
      clear H
      go_wp2
      go_meet
      case rel => exact ⟨_, (true), (by first | rfl | (simp; done) | (simp [*]; done)), H', ⟨by first | omega | exact Nat.le_refl _⟩, by repeat (first | exact Drawn0.refl _ | apply Drawn0.step)⟩
    · rw [if_neg c5] at H
      have c5b0 : decide ((a0.size : Int) < a1) = false := decide_eq_false c5
      clear c5
      (first | rw [c5b0] | (simp only [i64_w, i32_w]; rw [c5b0]) | skip)
      have H' := Aside0.mk H
      clear H
      go_wp2
      go_meet
      case rel => exact ⟨_, (decide ((a0.size : Int) > a2)), (by first | rfl | (simp; done) | (simp [*]; done)), H', ⟨by first | omega | exact Nat.le_refl _⟩, by repeat (first | exact Drawn0.refl _ | apply Drawn0.step)⟩
  case rest =>
    clear HC4
    try clear p2
    try clear c5
    try clear c5b0
    obtain ⟨kq, x17_3, rfl, HA, HJ3, ⟨mc3, rfl⟩⟩ := hcut
    cases kq with
    | zero => exact absurd HA.out (by simp [spec_l4Digits.j0])
    | succ kj3 =>
      have H := HA.out
      clear HA
      simp only [spec_l4Digits.j0] at H
      by_cases c6 : x17_3 = true
      · subst c6
        have H1 : (some false) = some r := by rw [if_pos rfl] at H; exact H
        clear H
        have H := H1
        clear H1
        obtain rfl := Option.some.inj H
        go_wp2
        go_ret
        exact ⟨by first | rfl | (simp; done) | (simp [*]; done), by repeat (first | exact Drawn0.refl _ | apply Drawn0.step)⟩
      · replace c6 := Bool.eq_false_iff.mpr c6
        subst c6
        have H1 : (spec_l4Digits.l0 kj3 a0 0) = some r := by rw [if_neg (show ¬ (false = true) by decide)] at H; exact H
        clear H
        have H := H1
        clear H1
        have H' := Aside0.mk H
        clear H
        go_wp2
        go_loopg [7] kj3 (fun kq v7 w' => ∃ (x7_2 : Int), v7 = .int .i64 x7_2 ∧ Aside0 (spec_l4Digits.l0 kq a0 x7_2 = some r) ∧ Aside0 (kq ≤ kj3) ∧ Drawn0 w w')
        case atStart => exact ⟨(0), (by first | rfl | (simp; done) | (simp [*]; done)), H', ⟨Nat.le_refl _⟩, by repeat (first | exact Drawn0.refl _ | apply Drawn0.step)⟩
        case round =>
          clear H'
          try clear p2
          try clear c3
          try clear c5
          try clear c5b0
          try clear c6
          try clear p2
          obtain ⟨x7_2, rfl, HA, HK2, ⟨m2, rfl⟩⟩ := hrel
          cases gk with
          | zero => exact absurd HA.out (by simp [spec_l4Digits.l0])
          | succ k2 =>
            have H := HA.out
            clear HA
            simp only [spec_l4Digits.l0] at H
            by_cases c7 : x7_2 < (a0.size : Int)
            · rw [if_pos c7] at H
              have c7b0 : decide (x7_2 < (a0.size : Int)) = true := decide_eq_true c7
              clear c7
              by_cases c8 : 0 ≤ x7_2
              · rw [if_pos c8] at H
                have c8b0 : decide (0 ≤ x7_2) = true := decide_eq_true c8
                clear c8
                by_cases c10 : (bt a0 x7_2) < 48
                · rw [if_pos c10] at H
                  have c10b0 : decide ((bt a0 x7_2) < 48) = true := decide_eq_true c10
                  clear c10
                  obtain rfl := Option.some.inj H
                  have p9 : 0 ≤ (x7_2 : Int) := of_decide_eq_true (by first | (with_reducible assumption) | assumption)
                  have q9 : x7_2 < (a0.size : Int) := of_decide_eq_true (by first | (with_reducible assumption) | assumption)
                  have hx9 := bt_at a0 x7_2
                  replace p9 := eq_true p9
                  replace q9 := eq_true q9
                  go_wp2
                  go_ret
                  exact ⟨by first | rfl | (simp; done) | (simp [*]; done), by repeat (first | exact Drawn0.refl _ | apply Drawn0.step)⟩
                · rw [if_neg c10] at H
                  have c10b0 : decide ((bt a0 x7_2) < 48) = false := decide_eq_false c10
                  clear c10
                  by_cases c12 : (bt a0 x7_2) > 57
                  · rw [if_pos c12] at H
                    have c12b0 : decide (57 < (bt a0 x7_2)) = true := decide_eq_true c12
                    clear c12
                    obtain rfl := Option.some.inj H
                    have p9 : 0 ≤ (x7_2 : Int) := of_decide_eq_true (by first | (with_reducible assumption) | assumption)
                    have q9 : x7_2 < (a0.size : Int) := of_decide_eq_true (by first | (with_reducible assumption) | assumption)
                    have hx9 := bt_at a0 x7_2
                    replace p9 := eq_true p9
                    replace q9 := eq_true q9
                    have p11 : 0 ≤ (x7_2 : Int) := of_decide_eq_true (by first | (with_reducible assumption) | assumption)
                    have q11 : x7_2 < (a0.size : Int) := of_decide_eq_true (by first | (with_reducible assumption) | assumption)
                    have hx11 := bt_at a0 x7_2
                    replace p11 := eq_true p11
                    replace q11 := eq_true q11
                    go_wp2
                    go_ret
                    exact ⟨by first | rfl | (simp; done) | (simp [*]; done), by repeat (first | exact Drawn0.refl _ | apply Drawn0.step)⟩
                  · rw [if_neg c12] at H
                    have c12b0 : decide (57 < (bt a0 x7_2)) = false := decide_eq_false c12
                    clear c12
                    have H' := Aside0.mk H
                    clear H
                    have p9 : 0 ≤ (x7_2 : Int) := of_decide_eq_true (by first | (with_reducible assumption) | assumption)
                    have q9 : x7_2 < (a0.size : Int) := of_decide_eq_true (by first | (with_reducible assumption) | assumption)
                    have hx9 := bt_at a0 x7_2
                    replace p9 := eq_true p9
                    replace q9 := eq_true q9
                    have p11 : 0 ≤ (x7_2 : Int) := of_decide_eq_true (by first | (with_reducible assumption) | assumption)
                    have q11 : x7_2 < (a0.size : Int) := of_decide_eq_true (by first | (with_reducible assumption) | assumption)
                    have hx11 := bt_at a0 x7_2
                    replace p11 := eq_true p11
                    replace q11 := eq_true q11
                    go_wp2
                    go_roundg k2
                    case measure => have := HJ3.out; have := HK2.out; omega
                    case rel => exact ⟨(wrap64 (x7_2 + 1)), (by first | rfl | (simp; done) | (simp [*]; done)), H', ⟨by have := HJ3.out; have := HK2.out; omega⟩, by repeat (first | exact Drawn0.refl _ | apply Drawn0.step)⟩
              · rw [if_neg c8] at H
                exact absurd H (by simp)
            · rw [if_neg c7] at H
              have c7b0 : decide (x7_2 < (a0.size : Int)) = false := decide_eq_false c7
              clear c7
              obtain rfl := Option.some.inj H
              go_wp2
              go_ret
              exact ⟨by first | rfl | (simp; done) | (simp [*]; done), by repeat (first | exact Drawn0.refl _ | apply Drawn0.step)⟩

def spec_l4GoodPan.f (k : Nat) (a0 : ByteArray) : Option (Bool) := (spec_l4Digits.f k a0 13 19).bind fun t101 => (some t101)
set_option maxHeartbeats 8000000 in
set_option maxRecDepth 100000 in
theorem spec_l4GoodPan.calls (k : Nat) (a0 : ByteArray) (r : Bool) (w : World) (h : spec_l4GoodPan.f k a0 = some r) :
    Calls Try.prog 44 #[.string a0] w fun e w' => e = .returned (.bool r) ∧ Drawn0 w w' := by
  have H : ((spec_l4Digits.f k a0 13 19).bind fun t101 => (some t101)) = some r := h
  clear h
  replace H := Option.bind_eq_some_iff.mp H
  obtain ⟨t101, A20, H⟩ := H
  replace H : (some t101) = some r := H
  have A2 := Aside0.mk A20
  clear A20
  obtain rfl := Option.some.inj H
  go_enter Try.func44, Try.ntmps44
  go_wp2_with (first | ((with_reducible refine gate_callee (f := 53) rfl ?_); refine goesL_ (some 4) rfl rfl Try.func53 (by kernel_rfl) rfl #[.string a0, .int .i64 13, .int .i64 19] rfl (by (try simp only [List.map_toArray, List.map_cons, List.map_nil]); first | done | rfl | (simp only [List.length_drop, List.length_take]; rfl)) ?_; (with_reducible refine (spec_l4Digits.calls k a0 13 19 t101 _ A2.out).mono ?_); rintro e w' ⟨rfl, ⟨nd, rfl⟩⟩; refine ⟨_, rfl, ?_⟩))
  go_ret
  exact ⟨by first | rfl | (simp; done) | (simp [*]; done), by repeat (first | exact Drawn0.refl _ | apply Drawn0.step)⟩

def spec_l1Xor.l0 : Nat → List Int → List Int → List Int → Int → Int → Option (List Int)
  | 0, _, _, _, _, _ => none
  | k + 1, x0, x1, x5, x11, x12 => if x12 < x11 then (if 0 ≤ x12 then (if x12 < (x0.length : Int) then (if x12 < (x1.length : Int) then (if x12 < (x5.length : Int) then (spec_l1Xor.l0 k x0 x1 (x5.set (x12 : Int).toNat (Go.bits .xor .u8 (rd x0 x12) (rd x1 x12))) x11 (wrap64 (x12 + 1))) else (none)) else (none)) else (none)) else (none)) else (some x5)
def spec_l1Xor.f (k : Nat) (l0 : List Int) (l1 : List Int) : Option (List Int) := if 0 ≤ (l0.length : Int) then (if ((l0.length : Int) : Int).toNat ≤ 281474976710656 then (spec_l1Xor.l0 k l0 l1 (List.replicate ((l0.length : Int) : Int).toNat 0) (l0.length : Int) 0) else (none)) else (none)
def spec_l1Xor.T5 : Bool × List (List Nat × List Nat) := (true, [([], []), ([], []), ([], []), ([], []), ([2, 3], [2, 3]), ([4], [4]), ([], []), ([], []), ([6, 7], [6, 7]), ([8], [8]), ([5, 9], [5, 9]), ([0, 1, 0, 1, 2, 3, 4, 5, 6, 7, 8, 9, 10], [0, 1]), ([11, 10, 0, 1, 2, 3, 4, 5, 6, 7, 8, 9, 10], [10, 11])])
def spec_l1Xor.B5 : List Nat := [0, 0, 0, 0, 12, 28, 0, 0, 192, 448, 1020, 2047, 4095]
theorem spec_l1Xor.tab5 : rtab .any (opsOf Try.f45 5) = spec_l1Xor.T5 := by kernel_rfl
theorem spec_l1Xor.bits5 : waitsOk spec_l1Xor.T5.2 spec_l1Xor.B5 = true := by kernel_rfl
set_option maxHeartbeats 8000000 in
set_option maxRecDepth 100000 in
theorem spec_l1Xor.calls (k : Nat) (A0 : Option Addr) (c0 : Nat) (l0 : List Int) (A1 : Option Addr) (c1 : Nat) (l1 : List Int) (r : List Int) (w : World) (hr0 : Kd.C (Kd.int .u8) w A0 l0.length l0) (hc0 : l0.length ≤ c0) (hr1 : Kd.C (Kd.int .u8) w A1 l1.length l1) (hc1 : l1.length ≤ c1) (h : spec_l1Xor.f k l0 l1 = some r) :
    Calls Try.prog 45 #[.slice A0 l0.length c0, .slice A1 l1.length c1] w fun e w' => ∃ v0_ : Value, e = .returned (v0_) ∧ Kd.R (Kd.int .u8) 5 w' w.heap.size (fun _ => True) v0_ r ∧ Below w.heap.size w w' := by
  have HR0 := Aside0.mk hr0
  have HC0 := Aside0.mk hc0
  clear hr0 hc0
  have HR1 := Aside0.mk hr1
  have HC1 := Aside0.mk hc1
  clear hr1 hc1
  have HB := Aside0.mk (Below.refl w.heap.size w)
  have H : (if 0 ≤ (l0.length : Int) then (if ((l0.length : Int) : Int).toNat ≤ 281474976710656 then (spec_l1Xor.l0 k l0 l1 (List.replicate ((l0.length : Int) : Int).toNat 0) (l0.length : Int) 0) else (none)) else (none)) = some r := h
  clear h
  by_cases c3 : 0 ≤ (l0.length : Int)
  · rw [if_pos c3] at H
    have c3b0 := eq_true c3
    have c3b1 : decide (0 ≤ (l0.length : Int)) = true := decide_eq_true c3
    clear c3
    by_cases c4 : ((l0.length : Int) : Int).toNat ≤ 281474976710656
    · rw [if_pos c4] at H
      have c4b0 := eq_true c4
      have c4b1 : decide (((l0.length : Int) : Int).toNat ≤ 281474976710656) = true := decide_eq_true c4
      clear c4
      obtain ⟨y102, hy102⟩ : ∃ y_ : List Int, y_ = (List.replicate ((l0.length : Int) : Int).toNat 0) := ⟨_, rfl⟩
      replace H : (spec_l1Xor.l0 k l0 l1 y102 (l0.length : Int) 0) = some r := by first | (rw [hy102]; with_reducible exact H) | (have H2_ := (Option.bind_some _ _).symm.trans H; rw [hy102]; with_reducible exact H2_) | (have H2_ := (Option.bind_some _ _).symm.trans H; with_reducible exact H2_) | with_reducible exact H | (rw [hy102]; exact H) | exact H
      have Ny102 := Aside0.mk hy102
      clear hy102
      have H' := Aside0.mk H
      clear H
      go_enter Try.func45, Try.ntmps45
      go_wp2_with (first | ((with_reducible refine gate_dst (N := 9) rfl ?_); refine Kd.R_make (Kd.int .u8) _ 5 rfl (N := 9) rfl 29 _ _ rfl (l0.length : Int) rfl rfl Try.underlying29 (.int .u8 0) 1 info5 rfl (by decide) (by omega) 0 (ok := fun _ => True) (okp := fun _ => True) rfl (fun _ hk => hk) trivial (of_decide_eq_true (by first | (with_reducible assumption) | assumption)) (Nat.le_trans (Nat.mul_le_mul_right _ (of_decide_eq_true (by first | (with_reducible assumption) | assumption) : (l0.length : Int).toNat ≤ 281474976710656)) (by omega)) (Below.refl _ _) (Nat.le_refl _) ?_; intro v103 w5 ho6 hb hg_ hnew_; clear hg_ hnew_; (first | rw [← Ny102.out] at ho6 | (simp only [Int.reduceToNat] at ho6; rw [← Ny102.out] at ho6)); have n0_ := Aside0.mk (Kd.R_lower ho6 (below_size (by repeat (first | (with_reducible first | exact HB.out | apply below_alloc | apply pw_below_drewN | apply below_drew1) | exact HB.out)))); have n1_ := Aside0.mk (below_step (by repeat (first | (with_reducible first | exact HB.out | apply below_alloc | apply pw_below_drewN | apply below_drew1) | exact HB.out)) hb); clear HB; have HO104 := n0_; have HB := n1_; clear n0_ n1_; clear hb ho6))
      go_loopg [12] k (fun kq v12 w' => ∃ (x5_1 : List Int) (x12_1 : Int), v12 = .int .i64 x12_1 ∧ Aside0 (spec_l1Xor.l0 kq l0 l1 x5_1 (l0.length : Int) x12_1 = some r) ∧ Aside0 (kq ≤ k) ∧ Aside0 (Kd.R (Kd.int .u8) 5 w' w.heap.size (fun _ => True) v103 x5_1) ∧ Aside0 (Below w.heap.size w w'))
      case atStart => exact ⟨(y102), (0), (by first | rfl | (simp; done) | (simp [*]; done)), H', ⟨Nat.le_refl _⟩, ⟨by (with_reducible repeat (first | apply Kd.R_alloc | apply Kd.R_drewN | apply Kd.R_drew)); exact HO104.out⟩, ⟨by repeat (first | (with_reducible first | exact HB.out | apply below_alloc | apply pw_below_drewN | apply below_drew1) | exact HB.out)⟩⟩
      case round =>
        clear H'
        try clear c1
        try clear p2
        try clear c3
        try clear c3b0
        try clear c3b1
        try clear c4
        try clear c4b0
        try clear c4b1
        obtain ⟨x5_1, x12_1, rfl, HA, HK1, HO_5, HB⟩ := hrel
        cases gk with
        | zero => exact absurd HA.out (by simp [spec_l1Xor.l0])
        | succ k1 =>
          have H := HA.out
          clear HA
          simp only [spec_l1Xor.l0] at H
          by_cases c7 : x12_1 < (l0.length : Int)
          · rw [if_pos c7] at H
            have c7b0 : decide (x12_1 < (l0.length : Int)) = true := decide_eq_true c7
            clear c7
            by_cases c8 : 0 ≤ x12_1
            · rw [if_pos c8] at H
              have c8b0 : decide (0 ≤ x12_1) = true := decide_eq_true c8
              clear c8
              by_cases c9 : x12_1 < (l0.length : Int)
              · rw [if_pos c9] at H
                have c9b0 : decide (x12_1 < (l0.length : Int)) = true := decide_eq_true c9
                clear c9
                by_cases c10 : x12_1 < (l1.length : Int)
                · rw [if_pos c10] at H
                  have c10b0 : decide (x12_1 < (l1.length : Int)) = true := decide_eq_true c10
                  clear c10
                  by_cases c11 : x12_1 < (x5_1.length : Int)
                  · rw [if_pos c11] at H
                    have c11b0 : decide (x12_1 < (x5_1.length : Int)) = true := decide_eq_true c11
                    clear c11
                    obtain ⟨y107, hy107⟩ : ∃ y_ : List Int, y_ = (x5_1.set (x12_1 : Int).toNat (Go.bits .xor .u8 (rd l0 x12_1) (rd l1 x12_1))) := ⟨_, rfl⟩
                    replace H : (spec_l1Xor.l0 k1 l0 l1 y107 (l0.length : Int) (wrap64 (x12_1 + 1))) = some r := by first | (rw [hy107]; with_reducible exact H) | (have H2_ := (Option.bind_some _ _).symm.trans H; rw [hy107]; with_reducible exact H2_) | (have H2_ := (Option.bind_some _ _).symm.trans H; with_reducible exact H2_) | with_reducible exact H | (rw [hy107]; exact H) | exact H
                    have Ny107 := Aside0.mk hy107
                    clear hy107
                    have H' := Aside0.mk H
                    clear H
                    try go_wp2
                    have n0_ := Aside0.mk (Kd.R_drew HO_5.out)
                    have n1_ := Aside0.mk (below_drew1 HB.out)
                    clear HO_5
                    clear HB
                    have HO_5 := n0_
                    have HB := n1_
                    clear n0_ n1_
                    have p105 : 0 ≤ (x12_1 : Int) := of_decide_eq_true (by first | (with_reducible assumption) | assumption)
                    have q105 : x12_1 < (l0.length : Int) := of_decide_eq_true (by first | (with_reducible assumption) | assumption)
                    obtain ⟨ad105, e105, hx105_0⟩ := Kd.at_int HR0.out x12_1 p105 q105
                    have hw105_0 := hx105_0
                    cases e105
                    replace hx105_0 := (HB.out.cell (World.block_lt_of_cell? w _ hx105_0)).trans hx105_0
                    replace p105 := eq_true p105
                    replace q105 := eq_true q105
                    have p106 : 0 ≤ (x12_1 : Int) := of_decide_eq_true (by first | (with_reducible assumption) | assumption)
                    have q106 : x12_1 < (l1.length : Int) := of_decide_eq_true (by first | (with_reducible assumption) | assumption)
                    obtain ⟨ad106, e106, hx106_0⟩ := Kd.at_int HR1.out x12_1 p106 q106
                    have hw106_0 := hx106_0
                    cases e106
                    replace hx106_0 := (HB.out.cell (World.block_lt_of_cell? w _ hx106_0)).trans hx106_0
                    replace p106 := eq_true p106
                    replace q106 := eq_true q106
                    have p12 : 0 ≤ (x12_1 : Int) := of_decide_eq_true (by first | (with_reducible assumption) | assumption)
                    have q12 : (x12_1 : Int) < ((x5_1.length : Int) : Int) := of_decide_eq_true (by first | (with_reducible assumption) | assumption)
                    obtain ⟨go12, co12, eo12, gb12, gl12, cl12, HG12⟩ := Kd.R_form HO_5.out (by omega)
                    (first | cases eo12 | (injection eo12 with ea_ en_ ec_; (first | subst ea_ | (injection ea_ with ea_; subst ea_)); subst ec_; clear en_))
                    have GB12 := Aside0.mk gb12
                    have GG12 := Aside0.mk HG12
                    clear gb12 gl12 HG12
                    obtain ⟨hx12_0, hf12_0⟩ := Kd.R_celln 0 HO_5.out (x12_1 : Int) p12 q12
                    replace p12 := eq_true p12
                    replace q12 := eq_true q12
                    have HP14 := Kd.R_putn HO_5.out (x12_1 : Int) (Go.bits .xor .u8 (rd l0 x12_1) (rd l1 x12_1))
                    rw [← Ny107.out] at HP14
                    have HQ14 := Aside0.mk HP14
                    clear HP14
                    refine start_ (n := 13) (S := fun w' => w'.cell? (ad105.add (x12_1).toNat) = some (.int .u8 (rd l0 x12_1)) ∧ w'.cell? (ad106.add (x12_1).toNat) = some (.int .u8 (rd l1 x12_1))) (ds := [12]) #[false, false, false, false, false, false, false, false, false, false, false, false, false] (by kernel_rfl) rfl rfl ⟨((HB.out.cell (World.block_lt_of_cell? w _ hw105_0)).trans hw105_0), ((HB.out.cell (World.block_lt_of_cell? w _ hw106_0)).trans hw106_0)⟩ (fun hHeld => ?_); refine with_tabW spec_l1Xor.tab5 spec_l1Xor.bits5 (fun HT_ HW_ => ?_)
                    generalize wr.drew = w13 at HO_5 HB GG12 HQ14 hf12_0 hx105_0 hx106_0 hx12_0 hHeld ⊢
                    refine pure_ (i := 0) (N := some 15) (v := ?_) (a' := ?_) #[true, false, false, false, false, false, false, false, false, false, false, false, false] rfl rfl (any_of HT_.out (by kernel_rfl)) (fun _ _ _ h => h) (Or.inl ⟨by rfl, ?_⟩) ?_ ?_
                    rotate_left
                    · intro w'
                      go_simp
                      with_reducible rfl
                    rotate_left
                    · simp only [Act.put, List.setIfInBounds_toArray, List.set_cons_zero, List.set_cons_succ, i64_w, i32_w]
                      rfl
                    refine pure_ (i := 1) (N := some 16) (v := ?_) (a' := ?_) #[true, true, false, false, false, false, false, false, false, false, false, false, false] rfl rfl (any_of HT_.out (by kernel_rfl)) (fun _ _ _ h => h) (Or.inl ⟨by rfl, ?_⟩) ?_ ?_
                    rotate_left
                    · intro w'
                      go_simp
                      with_reducible rfl
                    rotate_left
                    · simp only [Act.put, List.setIfInBounds_toArray, List.set_cons_zero, List.set_cons_succ, i64_w, i32_w]
                      rfl
                    refine pure_ (i := 2) (N := some 17) (v := ?_) (a' := ?_) #[true, true, true, false, false, false, false, false, false, false, false, false, false] rfl rfl (any_of HT_.out (by kernel_rfl)) (fun _ _ _ h => h) (Or.inl ⟨by rfl, ?_⟩) ?_ ?_
                    rotate_left
                    · intro w'
                      go_simp
                      with_reducible rfl
                    rotate_left
                    · simp only [Act.put, List.setIfInBounds_toArray, List.set_cons_zero, List.set_cons_succ, i64_w, i32_w]
                      rfl
                    refine pure_ (i := 3) (N := some 18) (v := ?_) (a' := ?_) #[true, true, true, true, false, false, false, false, false, false, false, false, false] rfl rfl (any_of HT_.out (by kernel_rfl)) (fun _ _ _ h => h) (Or.inl ⟨by rfl, ?_⟩) ?_ ?_
                    rotate_left
                    · intro w'
                      go_simp
                      with_reducible rfl
                    rotate_left
                    · simp only [Act.put, List.setIfInBounds_toArray, List.set_cons_zero, List.set_cons_succ, i64_w, i32_w]
                      rfl
                    refine pure_ (i := 4) (N := some 19) (v := ?_) (a' := ?_) #[true, true, true, true, true, false, false, false, false, false, false, false, false] rfl rfl (any_of HT_.out (by kernel_rfl)) (fun _ _ _ h => h) (Or.inl ⟨by rfl, ?_⟩) ?_ ?_
                    rotate_left
                    · intro w'
                      go_simp
                      with_reducible rfl
                    rotate_left
                    · simp only [Act.put, List.setIfInBounds_toArray, List.set_cons_zero, List.set_cons_succ, i64_w, i32_w]
                      rfl
                    refine pure_ (i := 6) (N := some 21) (v := ?_) (a' := ?_) #[true, true, true, true, true, false, true, false, false, false, false, false, false] rfl rfl (any_of HT_.out (by kernel_rfl)) (fun _ _ _ h => h) (Or.inl ⟨by rfl, ?_⟩) ?_ ?_
                    rotate_left
                    · intro w'
                      go_simp
                      with_reducible rfl
                    rotate_left
                    · simp only [Act.put, List.setIfInBounds_toArray, List.set_cons_zero, List.set_cons_succ, i64_w, i32_w]
                      rfl
                    refine pure_ (i := 7) (N := some 22) (v := ?_) (a' := ?_) #[true, true, true, true, true, false, true, true, false, false, false, false, false] rfl rfl (any_of HT_.out (by kernel_rfl)) (fun _ _ _ h => h) (Or.inl ⟨by rfl, ?_⟩) ?_ ?_
                    rotate_left
                    · intro w'
                      go_simp
                      with_reducible rfl
                    rotate_left
                    · simp only [Act.put, List.setIfInBounds_toArray, List.set_cons_zero, List.set_cons_succ, i64_w, i32_w]
                      rfl
                    refine pure_ (i := 8) (N := some 23) (v := ?_) (a' := ?_) #[true, true, true, true, true, false, true, true, true, false, false, false, false] rfl rfl (any_of HT_.out (by kernel_rfl)) (fun _ _ _ h => h) (Or.inl ⟨by rfl, ?_⟩) ?_ ?_
                    rotate_left
                    · intro w'
                      go_simp
                      with_reducible rfl
                    rotate_left
                    · simp only [Act.put, List.setIfInBounds_toArray, List.set_cons_zero, List.set_cons_succ, i64_w, i32_w]
                      rfl
                    refine take_ (i := 5) (N := some 20) (v := ?_) (a' := ?_) #[true, true, true, true, true, true, true, true, true, false, false, false, false] rfl rfl (take_ofW HT_.out HW_.out (by kernel_rfl)) (fun _ _ _ h => h) (Or.inl ⟨by rfl, ?_⟩) hHeld ?_ ?_
                    rotate_left
                    · rintro w' ⟨s0, s1⟩
                      go_simp
                      with_reducible rfl
                    rotate_left
                    · simp only [Act.put, List.setIfInBounds_toArray, List.set_cons_zero, List.set_cons_succ, i64_w, i32_w]
                      rfl
                    refine take_ (i := 9) (N := some 24) (v := ?_) (a' := ?_) #[true, true, true, true, true, true, true, true, true, true, false, false, false] rfl rfl (take_ofW HT_.out HW_.out (by kernel_rfl)) (fun _ _ _ h => h) (Or.inl ⟨by rfl, ?_⟩) hHeld ?_ ?_
                    rotate_left
                    · rintro w' ⟨s0, s1⟩
                      go_simp
                      with_reducible rfl
                    rotate_left
                    · simp only [Act.put, List.setIfInBounds_toArray, List.set_cons_zero, List.set_cons_succ, i64_w, i32_w]
                      rfl
                    refine pure_ (i := 10) (N := some 25) (v := ?_) (a' := ?_) #[true, true, true, true, true, true, true, true, true, true, true, false, false] rfl rfl (any_of HT_.out (by kernel_rfl)) (fun _ _ _ h => h) (Or.inl ⟨by rfl, ?_⟩) ?_ ?_
                    rotate_left
                    · intro w'
                      go_simp
                      with_reducible rfl
                    rotate_left
                    · simp only [Act.put, List.setIfInBounds_toArray, List.set_cons_zero, List.set_cons_succ, i64_w, i32_w]
                      rfl
                    refine pure_ (i := 11) (N := some 26) (v := ?_) (a' := ?_) #[true, true, true, true, true, true, true, true, true, true, true, true, false] rfl rfl (any_of HT_.out (by kernel_rfl)) (fun _ _ _ h => h) (Or.inl ⟨by rfl, ?_⟩) ?_ ?_
                    rotate_left
                    · intro w'
                      go_simp
                      with_reducible rfl
                    rotate_left
                    · simp only [Act.put, List.setIfInBounds_toArray, List.set_cons_zero, List.set_cons_succ, i64_w, i32_w]
                      rfl
                    refine last_ (i := 12) (N := none) #[true, true, true, true, true, true, true, true, true, true, true, true, true] rfl rfl (one_of HT_.out (by kernel_rfl)) (by decide) (fun K hK => ?_)
                    refine skip_ (w1 := ?_) (by rfl) rfl ?_ ?_
                    rotate_left
                    · go_simp
                      rfl
                    refine hK.out _ _ ?_
                    clear hK K
                    refine done_ (done_of HT_.out (by kernel_rfl)) ?_
                    try go_wp2
                    go_roundg k1
                    case measure => have := HK1.out; omega
                    case rel => exact ⟨(y107), (wrap64 (x12_1 + 1)), (by first | rfl | (simp; done) | (simp [*]; done)), H', ⟨by have := HK1.out; omega⟩, ⟨by (with_reducible repeat (first | apply Kd.R_alloc | apply Kd.R_drewN | apply Kd.R_drew)); exact HQ14.out⟩, ⟨by repeat (first | (with_reducible first | exact HB.out | apply below_alloc | apply pw_below_drewN | apply below_drew1 | refine below_set ?_ GB12.out) | exact HB.out)⟩⟩
                  · rw [if_neg c11] at H
                    exact absurd H (by simp)
                · rw [if_neg c10] at H
                  exact absurd H (by simp)
              · rw [if_neg c9] at H
                exact absurd H (by simp)
            · rw [if_neg c8] at H
              exact absurd H (by simp)
          · rw [if_neg c7] at H
            have c7b0 : decide (x12_1 < (l0.length : Int)) = false := decide_eq_false c7
            clear c7
            obtain rfl := Option.some.inj H
            go_wp2
            go_ret
            exact ⟨_, by first | rfl | (simp [errW_none, errW_some] <;> rfl) | (simp [*, errW_none, errW_some] <;> rfl), by (with_reducible repeat (first | apply Kd.R_alloc | apply Kd.R_drewN | apply Kd.R_drew)); exact HO_5.out, by repeat (first | (with_reducible first | exact HB.out | apply below_alloc | apply pw_below_drewN | apply below_drew1) | exact HB.out)⟩
    · rw [if_neg c4] at H
      exact absurd H (by simp)
  · rw [if_neg c3] at H
    exact absurd H (by simp)

def spec_l4Pack.l0 : Nat → List Int → List Int → Int → Option (List Int)
  | 0, _, _, _ => none
  | k + 1, x0, x3, x4 => if x4 < 16 then (if 0 ≤ x4 then (if x4 < (x0.length : Int) then (if 0 ≤ (wrap64 (x4 + 1)) then (if (wrap64 (x4 + 1)) < (x0.length : Int) then (if x3.length < 140737488355328 then (spec_l4Pack.l0 k x0 (x3 ++ [((((rd x0 x4) * 16) % 256) + (rd x0 (wrap64 (x4 + 1)))) % 256]) (wrap64 (x4 + 2))) else (none)) else (none)) else (none)) else (none)) else (none)) else (some x3)
def spec_l4Pack.f (k : Nat) (l0 : List Int) : Option (List Int) := spec_l4Pack.l0 k l0 ([] : List Int) 0
def spec_l4Pack.T5 : Bool × List (List Nat × List Nat) := (true, [([], []), ([], []), ([], []), ([1, 2], [1, 2]), ([3], [3]), ([4], [4]), ([], []), ([], []), ([7], [7]), ([6, 8], [6, 8]), ([9], [9]), ([5, 10], [5, 10]), ([11], [11]), ([0, 12], [0, 12]), ([13, 13, 0, 1, 2, 3, 4, 5, 6, 7, 8, 9, 10, 11, 12, 13], [0, 13])])
def spec_l4Pack.B5 : List Nat := [0, 0, 0, 6, 14, 30, 0, 0, 128, 448, 960, 2046, 4094, 8191, 16383]
theorem spec_l4Pack.tab5 : rtab .any (opsOf Try.f54 5) = spec_l4Pack.T5 := by kernel_rfl
theorem spec_l4Pack.bits5 : waitsOk spec_l4Pack.T5.2 spec_l4Pack.B5 = true := by kernel_rfl
set_option maxHeartbeats 8000000 in
set_option maxRecDepth 100000 in
theorem spec_l4Pack.calls (k : Nat) (A0 : Option Addr) (c0 : Nat) (l0 : List Int) (r : List Int) (w : World) (hr0 : Kd.C (Kd.int .u8) w A0 l0.length l0) (hc0 : l0.length ≤ c0) (h : spec_l4Pack.f k l0 = some r) :
    Calls Try.prog 54 #[.slice A0 l0.length c0] w fun e w' => ∃ v0_ : Value, e = .returned (v0_) ∧ Kd.R (Kd.int .u8) 5 w' w.heap.size (fun _ => True) v0_ r ∧ Below w.heap.size w w' := by
  have HR0 := Aside0.mk hr0
  have HC0 := Aside0.mk hc0
  clear hr0 hc0
  have HB := Aside0.mk (Below.refl w.heap.size w)
  have H : (spec_l4Pack.l0 k l0 ([] : List Int) 0) = some r := h
  clear h
  have H' := Aside0.mk H
  clear H
  go_enter Try.func54, Try.ntmps54
  go_wp2
  go_loopg [3, 4] k (fun kq v3 v4 w' => ∃ (x3_1 : List Int) (x4_1 : Int), v4 = .int .i64 x4_1 ∧ Aside0 (spec_l4Pack.l0 kq l0 x3_1 x4_1 = some r) ∧ Aside0 (kq ≤ k) ∧ Aside0 (Kd.R (Kd.int .u8) 5 w' w.heap.size (fun _ => True) v3 x3_1) ∧ Aside0 (Below w.heap.size w w'))
  case atStart => exact ⟨(([] : List Int)), (0), (by first | rfl | (simp; done) | (simp [*]; done)), H', ⟨Nat.le_refl _⟩, ⟨by first | exact Kd.R_nil _ _ _ _ _ | exact Kd.N_nil _ _ _ _ _ | exact Kd.V_nil _ _ _ _ _ | exact Kd.Q_nil _ _ _ _ _ | exact Kd.S_nil _ _ _ _ _⟩, ⟨by repeat (first | (with_reducible first | exact HB.out | apply below_alloc | apply pw_below_drewN | apply below_drew1) | exact HB.out)⟩⟩
  case round =>
    clear H'
    obtain ⟨x3_1, x4_1, rfl, HA, HK1, HO_3, HB⟩ := hrel
    cases gk with
    | zero => exact absurd HA.out (by simp [spec_l4Pack.l0])
    | succ k1 =>
      have H := HA.out
      clear HA
      simp only [spec_l4Pack.l0] at H
      by_cases c2 : x4_1 < 16
      · rw [if_pos c2] at H
        have c2b0 : decide (x4_1 < 16) = true := decide_eq_true c2
        clear c2
        by_cases c3 : 0 ≤ x4_1
        · rw [if_pos c3] at H
          have c3b0 : decide (0 ≤ x4_1) = true := decide_eq_true c3
          clear c3
          by_cases c4 : x4_1 < (l0.length : Int)
          · rw [if_pos c4] at H
            have c4b0 : decide (x4_1 < (l0.length : Int)) = true := decide_eq_true c4
            clear c4
            obtain ⟨ji5, hji5⟩ : ∃ j_ : Int, (wrap64 (x4_1 + 1)) = j_ := ⟨_, rfl⟩
            replace H : (if 0 ≤ (ji5) then (if (ji5) < (l0.length : Int) then (if x3_1.length < 140737488355328 then (spec_l4Pack.l0 k1 l0 (x3_1 ++ [((((rd l0 x4_1) * 16) % 256) + (rd l0 (ji5))) % 256]) (wrap64 (x4_1 + 2))) else (none)) else (none)) else (none)) = some r := by first | (rw [hji5] at H; exact H) | (simp only [hji5] at H ⊢; exact H)
            have hji5w : (IntKind.i64.wrap (x4_1 + 1)) = ji5 := (i64_w _).trans hji5
            by_cases c6 : 0 ≤ (ji5)
            · rw [if_pos c6] at H
              have c6b0 : decide (0 ≤ (ji5)) = true := decide_eq_true c6
              clear c6
              by_cases c7 : (ji5) < (l0.length : Int)
              · rw [if_pos c7] at H
                have c7b0 : decide ((ji5) < (l0.length : Int)) = true := decide_eq_true c7
                clear c7
                by_cases c8 : x3_1.length < 140737488355328
                · rw [if_pos c8] at H
                  have LMc8 := Aside0.mk c8
                  clear c8
                  obtain ⟨y110, hy110⟩ : ∃ y_ : List Int, y_ = (x3_1 ++ [((((rd l0 x4_1) * 16) % 256) + (rd l0 (ji5))) % 256]) := ⟨_, rfl⟩
                  replace H : (spec_l4Pack.l0 k1 l0 y110 (wrap64 (x4_1 + 2))) = some r := by first | (rw [hy110]; with_reducible exact H) | (have H2_ := (Option.bind_some _ _).symm.trans H; rw [hy110]; with_reducible exact H2_) | (have H2_ := (Option.bind_some _ _).symm.trans H; with_reducible exact H2_) | with_reducible exact H | (rw [hy110]; exact H) | exact H
                  have Ny110 := Aside0.mk hy110
                  clear hy110
                  have H' := Aside0.mk H
                  clear H
                  try go_wp2
                  have n0_ := Aside0.mk (Kd.R_drew HO_3.out)
                  have n1_ := Aside0.mk (below_drew1 HB.out)
                  clear HO_3
                  clear HB
                  have HO_3 := n0_
                  have HB := n1_
                  clear n0_ n1_
                  have p108 : 0 ≤ (x4_1 : Int) := of_decide_eq_true (by first | (with_reducible assumption) | assumption)
                  have q108 : x4_1 < (l0.length : Int) := of_decide_eq_true (by first | (with_reducible assumption) | assumption)
                  obtain ⟨ad108, e108, hx108_0⟩ := Kd.at_int HR0.out x4_1 p108 q108
                  have hw108_0 := hx108_0
                  cases e108
                  replace hx108_0 := (HB.out.cell (World.block_lt_of_cell? w _ hx108_0)).trans hx108_0
                  replace p108 := eq_true p108
                  replace q108 := eq_true q108
                  have p109 : 0 ≤ ((ji5) : Int) := of_decide_eq_true (by first | (with_reducible assumption) | assumption)
                  have q109 : (ji5) < (l0.length : Int) := of_decide_eq_true (by first | (with_reducible assumption) | assumption)
                  obtain ⟨ad109, e109, hx109_0⟩ := Kd.at_int HR0.out (ji5) p109 q109
                  have hw109_0 := hx109_0
                  obtain rfl : ad108 = ad109 := (by injection e109)
                  replace hx109_0 := (HB.out.cell (World.block_lt_of_cell? w _ hx109_0)).trans hx109_0
                  replace p109 := eq_true p109
                  replace q109 := eq_true q109
                  refine start_ (n := 15) (S := fun w' => w'.cell? (ad108.add (x4_1).toNat) = some (.int .u8 (rd l0 x4_1)) ∧ w'.cell? (ad108.add ((ji5)).toNat) = some (.int .u8 (rd l0 (ji5)))) (ds := []) #[false, false, false, false, false, false, false, false, false, false, false, false, false, false, false] (by kernel_rfl) rfl rfl ⟨((HB.out.cell (World.block_lt_of_cell? w _ hw108_0)).trans hw108_0), ((HB.out.cell (World.block_lt_of_cell? w _ hw109_0)).trans hw109_0)⟩ (fun hHeld => ?_); refine with_tabW spec_l4Pack.tab5 spec_l4Pack.bits5 (fun HT_ HW_ => ?_)
                  generalize wr.drew = w9 at HO_3 HB hx108_0 hx109_0 hHeld ⊢
                  refine pure_ (i := 0) (N := some 9) (v := ?_) (a' := ?_) #[true, false, false, false, false, false, false, false, false, false, false, false, false, false, false] rfl rfl (any_of HT_.out (by kernel_rfl)) (fun _ _ _ h => h) (Or.inl ⟨by rfl, ?_⟩) ?_ ?_
                  rotate_left
                  · intro w'
                    go_simp
                    with_reducible rfl
                  rotate_left
                  · simp only [Act.put, List.setIfInBounds_toArray, List.set_cons_zero, List.set_cons_succ, i64_w, i32_w]
                    rfl
                  refine pure_ (i := 1) (N := some 10) (v := ?_) (a' := ?_) #[true, true, false, false, false, false, false, false, false, false, false, false, false, false, false] rfl rfl (any_of HT_.out (by kernel_rfl)) (fun _ _ _ h => h) (Or.inl ⟨by rfl, ?_⟩) ?_ ?_
                  rotate_left
                  · intro w'
                    go_simp
                    with_reducible rfl
                  rotate_left
                  · simp only [Act.put, List.setIfInBounds_toArray, List.set_cons_zero, List.set_cons_succ, i64_w, i32_w]
                    rfl
                  refine pure_ (i := 2) (N := some 11) (v := ?_) (a' := ?_) #[true, true, true, false, false, false, false, false, false, false, false, false, false, false, false] rfl rfl (any_of HT_.out (by kernel_rfl)) (fun _ _ _ h => h) (Or.inl ⟨by rfl, ?_⟩) ?_ ?_
                  rotate_left
                  · intro w'
                    go_simp
                    with_reducible rfl
                  rotate_left
                  · simp only [Act.put, List.setIfInBounds_toArray, List.set_cons_zero, List.set_cons_succ, i64_w, i32_w]
                    rfl
                  refine pure_ (i := 3) (N := some 12) (v := ?_) (a' := ?_) #[true, true, true, true, false, false, false, false, false, false, false, false, false, false, false] rfl rfl (any_of HT_.out (by kernel_rfl)) (fun _ _ _ h => h) (Or.inl ⟨by rfl, ?_⟩) ?_ ?_
                  rotate_left
                  · intro w'
                    go_simp
                    with_reducible rfl
                  rotate_left
                  · simp only [Act.put, List.setIfInBounds_toArray, List.set_cons_zero, List.set_cons_succ, i64_w, i32_w]
                    rfl
                  refine pure_ (i := 6) (N := some 15) (v := ?_) (a' := ?_) #[true, true, true, true, false, false, true, false, false, false, false, false, false, false, false] rfl rfl (any_of HT_.out (by kernel_rfl)) (fun _ _ _ h => h) (Or.inl ⟨by rfl, ?_⟩) ?_ ?_
                  rotate_left
                  · intro w'
                    go_simp
                    with_reducible rfl
                  rotate_left
                  · simp only [Act.put, List.setIfInBounds_toArray, List.set_cons_zero, List.set_cons_succ, i64_w, i32_w]
                    rfl
                  refine pure_ (i := 7) (N := some 16) (v := ?_) (a' := ?_) #[true, true, true, true, false, false, true, true, false, false, false, false, false, false, false] rfl rfl (any_of HT_.out (by kernel_rfl)) (fun _ _ _ h => h) (Or.inl ⟨by rfl, ?_⟩) ?_ ?_
                  rotate_left
                  · intro w'
                    go_simp
                    with_reducible rfl
                  rotate_left
                  · simp only [Act.put, List.setIfInBounds_toArray, List.set_cons_zero, List.set_cons_succ, i64_w, i32_w]
                    rfl
                  refine pure_ (i := 8) (N := some 17) (v := ?_) (a' := ?_) #[true, true, true, true, false, false, true, true, true, false, false, false, false, false, false] rfl rfl (any_of HT_.out (by kernel_rfl)) (fun _ _ _ h => h) (Or.inl ⟨by rfl, ?_⟩) ?_ ?_
                  rotate_left
                  · intro w'
                    go_simp
                    with_reducible rfl
                  rotate_left
                  · simp only [Act.put, List.setIfInBounds_toArray, List.set_cons_zero, List.set_cons_succ, i64_w, i32_w]
                    rfl
                  refine pure_ (i := 9) (N := some 18) (v := ?_) (a' := ?_) #[true, true, true, true, false, false, true, true, true, true, false, false, false, false, false] rfl rfl (any_of HT_.out (by kernel_rfl)) (fun _ _ _ h => h) (Or.inl ⟨by rfl, ?_⟩) ?_ ?_
                  rotate_left
                  · intro w'
                    go_simp
                    with_reducible rfl
                  rotate_left
                  · simp only [Act.put, List.setIfInBounds_toArray, List.set_cons_zero, List.set_cons_succ, i64_w, i32_w]
                    rfl
                  refine take_ (i := 4) (N := some 13) (v := ?_) (a' := ?_) #[true, true, true, true, true, false, true, true, true, true, false, false, false, false, false] rfl rfl (take_ofW HT_.out HW_.out (by kernel_rfl)) (fun _ _ _ h => h) (Or.inl ⟨by rfl, ?_⟩) hHeld ?_ ?_
                  rotate_left
                  · rintro w' ⟨s0, s1⟩
                    go_simp
                    with_reducible rfl
                  rotate_left
                  · simp only [Act.put, List.setIfInBounds_toArray, List.set_cons_zero, List.set_cons_succ, i64_w, i32_w]
                    rfl
                  refine pure_ (i := 5) (N := some 14) (v := ?_) (a' := ?_) #[true, true, true, true, true, true, true, true, true, true, false, false, false, false, false] rfl rfl (any_of HT_.out (by kernel_rfl)) (fun _ _ _ h => h) (Or.inl ⟨by rfl, ?_⟩) ?_ ?_
                  rotate_left
                  · intro w'
                    go_simp
                    with_reducible rfl
                  rotate_left
                  · simp only [Act.put, List.setIfInBounds_toArray, List.set_cons_zero, List.set_cons_succ, i64_w, i32_w]
                    rfl
                  refine take_ (i := 10) (N := some 19) (v := ?_) (a' := ?_) #[true, true, true, true, true, true, true, true, true, true, true, false, false, false, false] rfl rfl (take_ofW HT_.out HW_.out (by kernel_rfl)) (fun _ _ _ h => h) (Or.inl ⟨by rfl, ?_⟩) hHeld ?_ ?_
                  rotate_left
                  · rintro w' ⟨s0, s1⟩
                    go_simp
                    with_reducible rfl
                  rotate_left
                  · simp only [Act.put, List.setIfInBounds_toArray, List.set_cons_zero, List.set_cons_succ, i64_w, i32_w]
                    rfl
                  refine pure_ (i := 11) (N := some 20) (v := ?_) (a' := ?_) #[true, true, true, true, true, true, true, true, true, true, true, true, false, false, false] rfl rfl (any_of HT_.out (by kernel_rfl)) (fun _ _ _ h => h) (Or.inl ⟨by rfl, ?_⟩) ?_ ?_
                  rotate_left
                  · intro w'
                    go_simp
                    with_reducible rfl
                  rotate_left
                  · simp only [Act.put, List.setIfInBounds_toArray, List.set_cons_zero, List.set_cons_succ, i64_w, i32_w]
                    rfl
                  refine one_ (i := 12) (N := some 21) #[true, true, true, true, true, true, true, true, true, true, true, true, true, false, false] rfl rfl (one_of HT_.out (by kernel_rfl)) (by decide) (fun K hK => ?_)
                  refine value_ (w1 := ?_) (v := ?_) (by rfl) rfl ?_ ?_
                  rotate_left 2
                  · go_simp
                    constructor
                    · rfl
                    · rfl
                  refine hK.out _ _ ⟨(World.cell?_alloc_lt _ _ _ (World.block_lt_of_cell? _ _ (((HB.out.cell (World.block_lt_of_cell? w _ hw108_0)).trans hw108_0)))).trans (((HB.out.cell (World.block_lt_of_cell? w _ hw108_0)).trans hw108_0)), (World.cell?_alloc_lt _ _ _ (World.block_lt_of_cell? _ _ (((HB.out.cell (World.block_lt_of_cell? w _ hw109_0)).trans hw109_0)))).trans (((HB.out.cell (World.block_lt_of_cell? w _ hw109_0)).trans hw109_0))⟩ (fun hHeld => ?_)
                  clear hK K
                  refine norm_ (a' := ?_) ?_ ?_
                  rotate_left
                  · show Act.put _ (some 21) _ = _
                    simp only [Act.put, List.setIfInBounds_toArray, List.set_cons_zero, List.set_cons_succ, i64_w, i32_w]
                    rfl
                  refine one_ (i := 13) (N := some 22) #[true, true, true, true, true, true, true, true, true, true, true, true, true, true, false] rfl rfl (one_of HT_.out (by kernel_rfl)) (by decide) (fun K hK => ?_)
                  refine Kd.R_append_step (Kd.int .u8) (w0 := w) w.heap.size (by rfl) (.tmp 9) (.tmp 21) 29 5 (.int .u8 0) 1 rfl Try.underlying29 info5 rfl (by decide) (by omega) u3 x3_1 (((((rd l0 x4_1) * 16) % 256) + (rd l0 (ji5))) % 256) [.int .u8 (((((rd l0 x4_1) * 16) % 256) + (rd l0 (ji5))) % 256)] (fun _ => True) (fun _ => False) rfl rfl ?aP (fun _ hk => hk.elim) ?aF ?aO ?aB ?aS ?aL ?_
                  (case aP => exact rfl)
                  (case aB => exact (by repeat (first | (with_reducible first | exact HB.out | apply below_alloc | apply pw_below_drewN | apply below_drew1) | exact HB.out)))
                  (case aF => exact (fun _ _ => trivial))
                  (case aO => exact (by (with_reducible repeat (first | apply Kd.R_alloc | apply Kd.R_drewN | apply Kd.R_drew)); exact HO_3.out))
                  (case aS => exact (below_size (by repeat (first | (with_reducible first | exact HB.out | apply below_alloc | apply pw_below_drewN | apply below_drew1) | exact HB.out))))
                  (case aL => have := LMc8.out; omega)
                  intro v111 w10 ho hb hg hat
                  rw [← Ny110.out] at ho
                  have n0_ := Aside0.mk (hb)
                  have n1_ := Aside0.mk (ho)
                  clear HB
                  clear HO_3
                  have HB := n0_
                  have HO112 := n1_
                  clear n0_ n1_
                  clear ho hb hg hat
                  refine hK.out _ _ ⟨((HB.out.cell (World.block_lt_of_cell? w _ hw108_0)).trans hw108_0), ((HB.out.cell (World.block_lt_of_cell? w _ hw109_0)).trans hw109_0)⟩ (fun hHeld => ?_)
                  clear hK K
                  refine norm_ (a' := ?_) ?_ ?_
                  rotate_left
                  · show Act.put _ (some 22) _ = _
                    simp only [Act.put, List.setIfInBounds_toArray, List.set_cons_zero, List.set_cons_succ, i64_w, i32_w]
                    rfl
                  refine pure_ (i := 14) (N := some 3) (v := ?_) (a' := ?_) #[true, true, true, true, true, true, true, true, true, true, true, true, true, true, true] rfl rfl (any_of HT_.out (by kernel_rfl)) (fun _ _ _ h => h) (Or.inl ⟨by rfl, ?_⟩) ?_ ?_
                  rotate_left
                  · intro w'
                    go_simp
                    with_reducible rfl
                  rotate_left
                  · simp only [Act.put, List.setIfInBounds_toArray, List.set_cons_zero, List.set_cons_succ, i64_w, i32_w]
                    rfl
                  refine done_ (done_of HT_.out (by kernel_rfl)) ?_
                  try go_wp2
                  go_roundg k1
                  case measure => have := HK1.out; omega
                  case rel => exact ⟨(y110), (wrap64 (x4_1 + 2)), (by first | rfl | (simp; done) | (simp [*]; done)), H', ⟨by have := HK1.out; omega⟩, ⟨by (with_reducible repeat (first | apply Kd.R_alloc | apply Kd.R_drewN | apply Kd.R_drew)); exact HO112.out⟩, ⟨by repeat (first | (with_reducible first | exact HB.out | apply below_alloc | apply pw_below_drewN | apply below_drew1) | exact HB.out)⟩⟩
                · rw [if_neg c8] at H
                  exact absurd H (by simp)
              · rw [if_neg c7] at H
                exact absurd H (by simp)
            · rw [if_neg c6] at H
              exact absurd H (by simp)
          · rw [if_neg c4] at H
            exact absurd H (by simp)
        · rw [if_neg c3] at H
          exact absurd H (by simp)
      · rw [if_neg c2] at H
        have c2b0 : decide (x4_1 < 16) = false := decide_eq_false c2
        clear c2
        obtain rfl := Option.some.inj H
        go_wp2
        go_ret
        exact ⟨_, by first | rfl | (simp [errW_none, errW_some] <;> rfl) | (simp [*, errW_none, errW_some] <;> rfl), by (with_reducible repeat (first | apply Kd.R_alloc | apply Kd.R_drewN | apply Kd.R_drew)); exact HO_3.out, by repeat (first | (with_reducible first | exact HB.out | apply below_alloc | apply pw_below_drewN | apply below_drew1) | exact HB.out)⟩

end Go.Proofs.Ytiejallnkgllnaa.LQ
namespace Go.Proofs.Ytiejallnkgllnaa
open Go.RowKit Go.Proofs.YtiejallnkgllnaaW.PrintWords Go.Proofs.YtiejallnkgllnaaW.PrintLast Go.Proofs.YtiejallnkgllnaaW.PrintMore

theorem info5 : (Try.prog.info? 5).map (fun i => (i.zero, i.size, i.bytes)) = some (some (.int .u8 0), 1, 1) := by kernel_rfl
theorem size5 : (Try.prog.info? 5).map (·.size) = some 1 := by kernel_rfl

/-- Element i, a word that the walk leaves alone. -/
def nth (l : List Int) (i : Nat) : Int := l.getD i 0
theorem nth_at (l : List Int) (i : Nat) (h : i < l.length) : nth l i = l[i] := by simp [nth, List.getD_eq_getElem?_getD, h]
theorem rd_nth (l : List Int) (i : Nat) : rd l (i : Int) = nth l i := by simp [rd, nth]
/-- A block that holds just these numbers. -/
def Blk (w : World) (g : Nat) (k : IntKind) (t : TypeId) (xs : List Int) : Prop := w.heap[g]? = some (.cells (nums k xs).toArray t (0, 0))
theorem Blk.R {w : World} {g base n : Nat} {k : IntKind} {e : TypeId} {xs : List Int} (h : Blk w g k e xs) (hb : base ≤ g) (hn : xs.length = n) (hm : n ≤ 9223372036854775807) :
    Kd.R (Kd.int k) e w base (fun _ => True) (.slice (some ⟨g, 0, none⟩) n n) xs := by
  subst hn
  refine Kd.R_of_own (enc := Value.int k) (h1 := fun _ => rfl) ⟨by simp [encs], .inr ⟨g, xs.length, (nums k xs).toArray, rfl, hb, h, Nat.le_refl _, by simpa [maxLen] using hm, by simp [nums], ?_⟩⟩ (fun _ _ => trivial)
  simp only [nums, encs, Nat.mul_one]
  exact List.take_of_length_le (by simp)
theorem Blk.cell {w : World} {g : Nat} {k : IntKind} {t : TypeId} {xs : List Int} (h : Blk w g k t xs) (i : Nat) (hi : i < xs.length) : w.cell? ⟨g, i, none⟩ = some (.int k (nth xs i)) := by
  rw [blk_cell h]
  simp [nums, nth, List.getD_eq_getElem?_getD, hi]
theorem Blk.free {w : World} {g : Nat} {k : IntKind} {t : TypeId} {xs : List Int} (h : Blk w g k t xs) (i : Nat) : w.frozen? ⟨g, i, none⟩ = false := blk_frozen h i
theorem Blk.set {w : World} {g : Nat} {k : IntKind} {t : TypeId} {xs : List Int} (h : Blk w g k t xs) (i : Nat) (x : Int) : Blk (w.setCell ⟨g, i, none⟩ (.int k x)) g k t (xs.set i x) := by
  have := blk_set h i (.int k x)
  rw [Blk, this]
  simp [nums, List.map_set]
theorem Blk.alloc {w : World} {g : Nat} {k : IntKind} {t : TypeId} {xs : List Int} (h : Blk w g k t xs) (o : Obj) : Blk (w.alloc o) g k t xs := blk_alloc h o
theorem Blk.below {w w1 : World} {g : Nat} {k : IntKind} {t : TypeId} {xs : List Int} (h : Blk w g k t xs) (hb : Below w.heap.size w w1) : Blk w1 g k t xs := blk_below h hb
theorem Blk.far {w : World} {g : Nat} {k : IntKind} {t : TypeId} {xs : List Int} (h : Blk w g k t xs) {p : Addr} (hp : g ≠ p.block) (u : Value) : Blk (w.setCell p u) g k t xs := blk_far h hp u
theorem Blk.lt {w : World} {g : Nat} {k : IntKind} {t : TypeId} {xs : List Int} (h : Blk w g k t xs) : g < w.heap.size := blk_lt h
theorem Blk.new (w : World) (k : IntKind) (t : TypeId) (xs : List Int) : Blk (w.alloc (.cells (nums k xs).toArray t)) w.heap.size k t xs := blk_new w _
theorem Blk.grown {w w1 : World} {g : Nat} {k : IntKind} {t : TypeId} {xs : List Int} {row : Option Nat} (h : Blk w g k t xs) (hg : w.grownBy w1 row) (hne : some g ≠ row) : Blk w1 g k t xs := blk_grown h hg hne
theorem made_nums (k : IntKind) (n : Nat) : madeCells #[Value.int k 0] n = (nums k (List.replicate n 0)).toArray := by
  apply Array.ext
  · simp [nums, madeCells]
  · intro i h1 h2
    simp [nums, madeCells, Nat.mod_one]
theorem C_cells {w : World} {k : IntKind} {A : Option Addr} {l : List Int} (h : Kd.C (Kd.int k) w A l.length l) (hp : 0 < l.length) : ∃ ad, A = some ad ∧ ∀ j v, (nums k l)[j]? = some v → w.cell? (ad.add j) = some v := by
  obtain ⟨ad, rfl, _⟩ := Kd.at_int h 0 (by omega) (by omega)
  refine ⟨ad, rfl, fun j v hv => ?_⟩
  have hj : j < l.length := by
    rcases Nat.lt_or_ge j l.length with h' | h'
    · exact h'
    · simp [nums, List.getElem?_eq_none h'] at hv
  obtain ⟨ad', he, hc⟩ := Kd.at_int h (j : Int) (by omega) (by omega)
  cases he
  rw [Int.toNat_natCast] at hc
  rw [hc]
  simp [nums, hj] at hv
  subst hv
  simp [rd, List.getD_eq_getElem?_getD, hj]
theorem nums_one (k : IntKind) (l : List Int) : ∀ v ∈ nums k l, v.oneCell' = true := by
  intro v hv
  simp only [nums, List.mem_map] at hv
  obtain ⟨x, _, rfl⟩ := hv
  rfl
end Go.Proofs.Ytiejallnkgllnaa
namespace Go.Proofs.Ytiejallnkgllnaa
open Go.RowKit Go.Proofs.YtiejallnkgllnaaW.PrintWords Go.Proofs.YtiejallnkgllnaaW.PrintLast Go.Proofs.YtiejallnkgllnaaW.PrintMore

set_option linter.unusedVariables false

def spec_l1Bytes.f (l0 : List Int) : Option (List Int) := if l0.length ≤ 140737488355328 then some l0 else none

set_option maxHeartbeats 1000000 in
theorem spec_l1Bytes.calls (A0 : Option Addr) (c0 : Nat) (l0 : List Int) (r : List Int) (w : World) (hr0 : Kd.C (Kd.int .u8) w A0 l0.length l0) (hc0 : l0.length ≤ c0) (h : spec_l1Bytes.f l0 = some r) :
    Calls Try.prog 97 #[.slice A0 l0.length c0] w fun e w' => ∃ v0_ : Value, e = .returned (v0_) ∧ Kd.R (Kd.int .u8) 5 w' w.heap.size (fun _ => True) v0_ r ∧ Below w.heap.size w w' := by
  unfold spec_l1Bytes.f at h
  have hlen : l0.length ≤ 140737488355328 := by
    by_cases hl : l0.length ≤ 140737488355328
    · exact hl
    · rw [if_neg hl] at h; cases h
  rw [if_pos hlen] at h
  obtain rfl := Option.some.inj h
  clear h
  have HR0 := Aside0.mk hr0
  clear hr0
  obtain ⟨n, hn⟩ : ∃ n, n = l0.length := ⟨_, rfl⟩
  rw [← hn] at hc0 hlen ⊢
  have Hn := Aside0.mk hn
  clear hn
  have hmk := print_make (P := Try.prog) 29 5 .u8 1 Try.underlying29 info5 (by decide) n (by omega)
  go_enter Try.func97, Try.ntmps97
  go_wp2_with (with_reducible refine wpList_copy_splice rfl (.tmp 7) (.tmp 8) 29 29 rfl 5 Try.underlying29 size5 (some ⟨w.heap.size, 0, none⟩) A0 n n n c0 rfl rfl w.heap.size 0 (nums .u8 (List.replicate n 0)) 5 ?c1 (nums .u8 l0) ?c2 ?c3 ?c4 (nums_one _ _) w.heap.size w ((Below.refl _ _).alloc (Nat.le_refl _) _) (Nat.le_refl _) ?_)
  case c1 => rw [← made_nums]; exact blk_new w _
  case c2 => rw [nums_length, ← Hn.out]; simp
  case c3 =>
    intro hp
    rw [nums_length] at hp
    obtain ⟨ad, he, hc⟩ := C_cells HR0.out hp
    have hc' : ∀ j v, (nums .u8 l0)[j]? = some v → (w.alloc (.cells (madeCells #[Value.int .u8 0] n) 5)).cell? (ad.add j) = some v := fun j v hv =>
      (World.cell?_alloc_lt _ _ _ (World.block_lt_of_cell? w _ (hc j v hv))).trans (hc j v hv)
    first | exact ⟨rfl, ad, he, hc'⟩ | exact ⟨ad, he, hc'⟩
  case c4 => rw [nums_length, nums_length, ← Hn.out]; simp
  intro w2 HG hB
  clear hmk
  go_wp2
  go_ret
  have hs : splice (nums .u8 (List.replicate n 0)) 0 (nums .u8 l0) = nums .u8 l0 := by
    unfold splice
    rw [List.drop_of_length_le (by simp [nums, ← Hn.out])]
    simp
  have hb : Blk w2 w.heap.size .u8 5 l0 := by
    have := HG.out
    rw [hs] at this
    exact this
  exact ⟨_, rfl, hb.R (Nat.le_refl _) Hn.out.symm (by omega), hB⟩
end Go.Proofs.Ytiejallnkgllnaa
namespace Go.Proofs.Ytiejallnkgllnaa.LQ
open Go.RowKit Go.Proofs.YtiejallnkgllnaaW.PrintWords Go.Proofs.YtiejallnkgllnaaW.PrintLast Go.Proofs.YtiejallnkgllnaaW.PrintMore
attribute [local go_sem] max2_int min2_int max_two min_two max_three min_three max_four min_four   -- for this text's walks alone
set_option linter.unusedVariables false
set_option linter.unusedSimpArgs false

mutual
def spec_Variant.j0 : Nat → List Int → Int → Bool → Option (List Int)
  | 0, _, _, _ => none
  | k + 1, x0, x1, x18 => if x18 = true then (some ([] : List Int)) else ((spec_l1Bytes.f x0).bind fun t176 => ((some (([7, 15] : List Int) : List Int)).bind fun y179 => (spec_Variant.l0 k x1 t176 y179 (y179.length : Int) 0)))
def spec_Variant.l0 : Nat → Int → List Int → List Int → Int → Int → Option (List Int)
  | 0, _, _, _, _, _ => none
  | k + 1, x1, x5, x21, x22, x23 => if x23 < x22 then (if 0 ≤ x23 then (if x23 < (x21.length : Int) then (if x1 = 2 then (if 0 ≤ (wrap64 ((rd x21 x23) - 1)) then (if (wrap64 ((rd x21 x23) - 1)) < (x5.length : Int) then (spec_Variant.l0 k x1 (x5.set ((wrap64 ((rd x21 x23) - 1)) : Int).toNat (Go.bits .xor .u8 (rd x5 (wrap64 ((rd x21 x23) - 1))) 255)) x21 x22 (wrap64 (x23 + 1))) else (none)) else (none)) else (if 0 ≤ (rd x21 x23) then (if (rd x21 x23) < (x5.length : Int) then (spec_Variant.l0 k x1 (x5.set ((rd x21 x23) : Int).toNat (Go.bits .xor .u8 (rd x5 (rd x21 x23)) 255)) x21 x22 (wrap64 (x23 + 1))) else (none)) else (none))) else (none)) else (none)) else (some x5)
end
def spec_Variant.f (k : Nat) (l0 : List Int) (a1 : Int) : Option (List Int) := if (l0.length : Int) = 16 then (if a1 = 1 then (spec_Variant.j0 k l0 a1 false) else (spec_Variant.j0 k l0 a1 (a1 != 2))) else (spec_Variant.j0 k l0 a1 true)
set_option maxHeartbeats 8000000 in
set_option maxRecDepth 100000 in
theorem spec_Variant.calls (k : Nat) (A0 : Option Addr) (c0 : Nat) (l0 : List Int) (a1 : Int) (r : List Int) (w : World) (hr0 : Kd.C (Kd.int .u8) w A0 l0.length l0) (hc0 : l0.length ≤ c0) (h : spec_Variant.f k l0 a1 = some r) :
    Calls Try.prog 89 #[.slice A0 l0.length c0, .int .i64 a1] w fun e w' => ∃ v0_ : Value, e = .returned (v0_) ∧ Kd.R (Kd.int .u8) 5 w' w.heap.size (fun _ => True) v0_ r ∧ Below w.heap.size w w' := by
  have HR0 := Aside0.mk hr0
  have HC0 := Aside0.mk hc0
  clear hr0 hc0
  have HB := Aside0.mk (Below.refl w.heap.size w)
  have H : (if (l0.length : Int) = 16 then (if a1 = 1 then (spec_Variant.j0 k l0 a1 false) else (spec_Variant.j0 k l0 a1 (a1 != 2))) else (spec_Variant.j0 k l0 a1 true)) = some r := h
  clear h
  have HC3 := Aside0.mk H
  clear H
  go_enter Try.func89, Try.ntmps89
  go_upto_region 1 with (fail)
  go_cut [18] (fun v18 wc => ∃ (kq : Nat) (x18_2 : Bool), v18 = .bool x18_2 ∧ Aside0 (spec_Variant.j0 kq l0 a1 x18_2 = some r) ∧ Aside0 (kq ≤ k) ∧ Aside0 (Below w.heap.size w wc))
  case first =>
    have H := HC3.out
    clear HC3
    by_cases c4 : (l0.length : Int) = 16
    · rw [if_pos c4] at H
      have c4b0 : ((l0.length : Int) == 16) = true := beq_iff_eq.mpr c4
      have c4b1 : ((l0.length : Int) != 16) = false := bne_eq_false_iff_eq.mpr c4
      clear c4
      (first | rw [c4b0] | (simp only [i64_w, i32_w]; rw [c4b0]) | skip)
      by_cases c5 : a1 = 1
      · rw [if_pos c5] at H
        have c5b0 : (a1 == 1) = true := beq_iff_eq.mpr c5
        have c5b1 : (a1 != 1) = false := bne_eq_false_iff_eq.mpr c5
        clear c5
        have H' := Aside0.mk H
        clear H
        go_wp2
        go_meet
        case rel => exact ⟨_, (false), (by first | rfl | (simp; done) | (simp [*]; done)), H', ⟨by first | omega | exact Nat.le_refl _⟩, ⟨by repeat (first | (with_reducible first | exact HB.out | apply below_alloc | apply pw_below_drewN | apply below_drew1) | exact HB.out)⟩⟩
      · rw [if_neg c5] at H
        have c5b0 : (a1 == 1) = false := beq_eq_false_iff_ne.mpr c5
        have c5b1 : (a1 != 1) = true := bne_iff_ne.mpr c5
        have H' := Aside0.mk H
        clear H
        go_wp2
        go_meet
        case rel => exact ⟨_, ((a1 != 2)), (by first | rfl | (simp; done) | (simp [*]; done)), H', ⟨by first | omega | exact Nat.le_refl _⟩, ⟨by repeat (first | (with_reducible first | exact HB.out | apply below_alloc | apply pw_below_drewN | apply below_drew1) | exact HB.out)⟩⟩
    · rw [if_neg c4] at H
      have c4b0 : ((l0.length : Int) == 16) = false := beq_eq_false_iff_ne.mpr c4
      have c4b1 : ((l0.length : Int) != 16) = true := bne_iff_ne.mpr c4
      (first | rw [c4b0] | (simp only [i64_w, i32_w]; rw [c4b0]) | skip)
      have H' := Aside0.mk H
      clear H
      go_wp2
      go_meet
      case rel => exact ⟨_, (true), (by first | rfl | (simp; done) | (simp [*]; done)), H', ⟨by first | omega | exact Nat.le_refl _⟩, ⟨by repeat (first | (with_reducible first | exact HB.out | apply below_alloc | apply pw_below_drewN | apply below_drew1) | exact HB.out)⟩⟩
  case rest =>
    clear HC3
    try clear p2
    try clear c4
    try clear c4b0
    try clear c4b1
    try clear c5
    try clear c5b0
    try clear c5b1
    obtain ⟨kq, x18_2, rfl, HA, HJ2, HB⟩ := hcut
    cases kq with
    | zero => exact absurd HA.out (by simp [spec_Variant.j0])
    | succ kj2 =>
      have H := HA.out
      clear HA
      simp only [spec_Variant.j0] at H
      by_cases c6 : x18_2 = true
      · subst c6
        have H1 : (some ([] : List Int)) = some r := by rw [if_pos rfl] at H; exact H
        clear H
        have H := H1
        clear H1
        obtain rfl := Option.some.inj H
        go_wp2
        go_ret
        exact ⟨_, by first | rfl | (simp [errW_none, errW_some] <;> rfl) | (simp [*, errW_none, errW_some] <;> rfl), by first | exact Kd.R_nil _ _ _ _ _ | exact Kd.N_nil _ _ _ _ _ | exact Kd.V_nil _ _ _ _ _ | exact Kd.Q_nil _ _ _ _ _ | exact Kd.S_nil _ _ _ _ _, by repeat (first | (with_reducible first | exact HB.out | apply below_alloc | apply pw_below_drewN | apply below_drew1) | exact HB.out)⟩
      · replace c6 := Bool.eq_false_iff.mpr c6
        subst c6
        have H1 : ((spec_l1Bytes.f l0).bind fun t176 => ((some (([7, 15] : List Int) : List Int)).bind fun y179 => (spec_Variant.l0 kj2 a1 t176 y179 (y179.length : Int) 0))) = some r := by rw [if_neg (show ¬ (false = true) by decide)] at H; exact H
        clear H
        have H := H1
        clear H1
        replace H := Option.bind_eq_some_iff.mp H
        obtain ⟨t176, A70, H⟩ := H
        replace H : ((some (([7, 15] : List Int) : List Int)).bind fun y179 => (spec_Variant.l0 kj2 a1 t176 y179 (y179.length : Int) 0)) = some r := H
        have A7 := Aside0.mk A70
        clear A70
        obtain ⟨y179, hy179⟩ : ∃ y_ : List Int, y_ = (([7, 15] : List Int)) := ⟨_, rfl⟩
        replace H : (spec_Variant.l0 kj2 a1 t176 y179 (y179.length : Int) 0) = some r := by first | (rw [hy179]; with_reducible exact H) | (have H2_ := (Option.bind_some _ _).symm.trans H; rw [hy179]; with_reducible exact H2_) | (have H2_ := (Option.bind_some _ _).symm.trans H; with_reducible exact H2_) | with_reducible exact H | (rw [hy179]; exact H) | exact H
        have Ny179 := Aside0.mk hy179
        clear hy179
        have H' := Aside0.mk H
        clear H
        go_wp2_with (first | ((with_reducible refine gate_callee (f := 97) rfl ?_); refine goesL_ (some 20) rfl rfl Try.func97 (by kernel_rfl) rfl #[.slice A0 l0.length c0] rfl (by (try simp only [List.map_toArray, List.map_cons, List.map_nil]); first | done | rfl | (simp only [List.length_drop, List.length_take]; rfl)) ?_; (with_reducible refine (spec_l1Bytes.calls _ _ l0 t176 _ ?side1 ?side2 A7.out).mono ?_); (case side1 => repeat (first | exact (Kd.C_below HR0.out HB.out) | (with_reducible refine Kd.C_alloc ?_ _) | (with_reducible refine Kd.C_drewN ?_ _) | (with_reducible refine Kd.C_drew ?_))); (case side2 => exact HC0.out); rintro e w8 ⟨v177, rfl, ho0, hb⟩; refine ⟨_, rfl, ?_⟩; have n0_ := Aside0.mk (Kd.R_lower ho0 (below_size (by repeat (first | (with_reducible first | exact HB.out | apply below_alloc | apply pw_below_drewN | apply below_drew1) | exact HB.out)))); have n1_ := Aside0.mk (below_step (by repeat (first | (with_reducible first | exact HB.out | apply below_alloc | apply pw_below_drewN | apply below_drew1) | exact HB.out)) hb); clear HB; have HO178 := n0_; have HB := n1_; clear n0_ n1_; (try clear hb); (try clear hb2); (try clear hk); (try clear hi); (try clear ho0)) | ((with_reducible refine gate_dst (N := 21) rfl ?_); refine Kd.R_lit (Kd.int .i64) _ 3 ?hg (N := 21) ?hd (xs := ([7, 15] : List Int)) (inner := [.int .i64 7, .int .i64 15]) (ok := fun _ => True) (okp := fun _ => True) ?hr ?hp (fun _ hk => hk) trivial (Below.refl _ _) (Nat.le_refl _) (by simp) ?_; (case hd => rfl); (case hg => rfl); (case hr => first | (go_simp; done) | (go_simp; rfl)); (case hp => exact (Reps.one (show Kd.M (Kd.int .i64) _ _ _ 7 [.int .i64 7] from rfl) (Reps.one (show Kd.M (Kd.int .i64) _ _ _ 15 [.int .i64 15] from rfl) (Reps.none _ _)))); intro v180 w9 ho10 hb hg_ hnew_; clear hg_ hnew_; (first | rw [← Ny179.out] at ho10 | (simp only [Int.reduceToNat] at ho10; rw [← Ny179.out] at ho10)); have n0_ := Aside0.mk (Kd.R_below (by (with_reducible repeat (first | apply Kd.R_alloc | apply Kd.R_drewN | apply Kd.R_drew)); exact HO178.out) hb); have n1_ := Aside0.mk (Kd.R_lower ho10 (below_size (by repeat (first | (with_reducible first | exact HB.out | apply below_alloc | apply pw_below_drewN | apply below_drew1) | exact HB.out)))); have n2_ := Aside0.mk (below_step (by repeat (first | (with_reducible first | exact HB.out | apply below_alloc | apply pw_below_drewN | apply below_drew1) | exact HB.out)) hb); clear HO178; clear HB; have HO178 := n0_; have HO181 := n1_; have HB := n2_; clear n0_ n1_ n2_; clear hb ho10; obtain ⟨Ao11, co11, eo11⟩ := Kd.R_slice HO181.out; subst eo11))
        go_loopg [23] kj2 (fun kq v23 w' => ∃ (x5_2 : List Int) (x23_2 : Int), v23 = .int .i64 x23_2 ∧ Aside0 (spec_Variant.l0 kq a1 x5_2 y179 (y179.length : Int) x23_2 = some r) ∧ Aside0 (kq ≤ kj2) ∧ Aside0 (Kd.R (Kd.int .u8) 5 w' w.heap.size (fun _ => True) v177 x5_2) ∧ Aside0 (Kd.R (Kd.int .i64) 3 w' w.heap.size (fun _ => True) (.slice Ao11 y179.length co11) y179) ∧ Aside0 (Below w.heap.size w w'))
        case atStart => exact ⟨(t176), (0), (by first | rfl | (simp; done) | (simp [*]; done)), H', ⟨Nat.le_refl _⟩, ⟨by (with_reducible repeat (first | apply Kd.R_alloc | apply Kd.R_drewN | apply Kd.R_drew)); exact HO178.out⟩, ⟨by (with_reducible repeat (first | apply Kd.R_alloc | apply Kd.R_drewN | apply Kd.R_drew)); exact HO181.out⟩, ⟨by repeat (first | (with_reducible first | exact HB.out | apply below_alloc | apply pw_below_drewN | apply below_drew1) | exact HB.out)⟩⟩
        case round =>
          clear H'
          try clear p2
          try clear c4
          try clear c4b0
          try clear c4b1
          try clear c5
          try clear c5b0
          try clear c5b1
          try clear c6
          try clear c8
          try clear c9
          try clear p2
          obtain ⟨x5_2, x23_2, rfl, HA, HK2, HO_5, HO_21, HB⟩ := hrel
          cases gk with
          | zero => exact absurd HA.out (by simp [spec_Variant.l0])
          | succ k2 =>
            have H := HA.out
            clear HA
            simp only [spec_Variant.l0] at H
            by_cases c12 : x23_2 < (y179.length : Int)
            · rw [if_pos c12] at H
              have c12b0 : decide (x23_2 < (y179.length : Int)) = true := decide_eq_true c12
              clear c12
              by_cases c13 : 0 ≤ x23_2
              · rw [if_pos c13] at H
                have c13b0 : decide (0 ≤ x23_2) = true := decide_eq_true c13
                clear c13
                by_cases c14 : x23_2 < (y179.length : Int)
                · rw [if_pos c14] at H
                  have c14b0 : decide (x23_2 < (y179.length : Int)) = true := decide_eq_true c14
                  clear c14
                  by_cases c15 : a1 = 2
                  · rw [if_pos c15] at H
                    have c15b0 : (a1 == 2) = true := beq_iff_eq.mpr c15
                    have c15b1 : (a1 != 2) = false := bne_eq_false_iff_eq.mpr c15
                    clear c15
                    obtain ⟨ji16, hji16⟩ : ∃ j_ : Int, (wrap64 ((rd y179 x23_2) - 1)) = j_ := ⟨_, rfl⟩
                    replace H : (if 0 ≤ (ji16) then (if (ji16) < (x5_2.length : Int) then (spec_Variant.l0 k2 a1 (x5_2.set ((ji16) : Int).toNat (Go.bits .xor .u8 (rd x5_2 (ji16)) 255)) y179 (y179.length : Int) (wrap64 (x23_2 + 1))) else (none)) else (none)) = some r := by first | (rw [hji16] at H; exact H) | (simp only [hji16] at H ⊢; exact H)
                    have hji16w : (IntKind.i64.wrap ((rd y179 x23_2) - 1)) = ji16 := (i64_w _).trans hji16
                    by_cases c17 : 0 ≤ (ji16)
                    · rw [if_pos c17] at H
                      have c17b0 : decide (0 ≤ (ji16)) = true := decide_eq_true c17
                      clear c17
                      by_cases c18 : (ji16) < (x5_2.length : Int)
                      · rw [if_pos c18] at H
                        have c18b0 : decide ((ji16) < (x5_2.length : Int)) = true := decide_eq_true c18
                        clear c18
                        obtain ⟨y184, hy184⟩ : ∃ y_ : List Int, y_ = (x5_2.set ((ji16) : Int).toNat (Go.bits .xor .u8 (rd x5_2 (ji16)) 255)) := ⟨_, rfl⟩
                        replace H : (spec_Variant.l0 k2 a1 y184 y179 (y179.length : Int) (wrap64 (x23_2 + 1))) = some r := by first | (rw [hy184]; with_reducible exact H) | (have H2_ := (Option.bind_some _ _).symm.trans H; rw [hy184]; with_reducible exact H2_) | (have H2_ := (Option.bind_some _ _).symm.trans H; with_reducible exact H2_) | with_reducible exact H | (rw [hy184]; exact H) | exact H
                        have Ny184 := Aside0.mk hy184
                        clear hy184
                        have H' := Aside0.mk H
                        clear H
                        have p182 : 0 ≤ (x23_2 : Int) := of_decide_eq_true (by first | (with_reducible assumption) | assumption)
                        have q182 : x23_2 < (y179.length : Int) := of_decide_eq_true (by first | (with_reducible assumption) | assumption)
                        obtain ⟨ad182, e182, hx182_0⟩ := Kd.at_int (Kd.R_reads' HO_21.out).2.2 x23_2 p182 q182
                        cases e182
                        replace p182 := eq_true p182
                        replace q182 := eq_true q182
                        obtain ⟨Ao20, co20, eo20⟩ := Kd.R_slice HO_5.out
                        subst eo20
                        have p183 : 0 ≤ ((ji16) : Int) := of_decide_eq_true (by first | (with_reducible assumption) | assumption)
                        have q183 : (ji16) < (x5_2.length : Int) := of_decide_eq_true (by first | (with_reducible assumption) | assumption)
                        obtain ⟨ad183, e183, hx183_0⟩ := Kd.at_int (Kd.R_reads' HO_5.out).2.2 (ji16) p183 q183
                        cases e183
                        replace p183 := eq_true p183
                        replace q183 := eq_true q183
                        have p19 : 0 ≤ ((ji16) : Int) := of_decide_eq_true (by first | (with_reducible assumption) | assumption)
                        have q19 : ((ji16) : Int) < ((x5_2.length : Int) : Int) := of_decide_eq_true (by first | (with_reducible assumption) | assumption)
                        obtain ⟨go19, co19, eo19, gb19, gl19, cl19, HG19⟩ := Kd.R_form HO_5.out (by omega)
                        (first | cases eo19 | (injection eo19 with ea_ en_ ec_; (first | subst ea_ | (injection ea_ with ea_; subst ea_)); subst ec_; clear en_))
                        have GB19 := Aside0.mk gb19
                        have GG19 := Aside0.mk HG19
                        clear gb19 gl19 HG19
                        (first | simp only [add_plain] at hx183_0 | skip)
                        obtain ⟨hx19_0, hf19_0⟩ := Kd.R_celln 0 HO_5.out ((ji16) : Int) p19 q19
                        replace p19 := eq_true p19
                        replace q19 := eq_true q19
                        have HP21 := Kd.R_putg HO_5.out ((ji16) : Int) (Go.bits .xor .u8 (rd x5_2 (ji16)) 255)
                        go_wp2_with (first | ((with_reducible refine gate_store (t := 5) (p := 36) rfl ?_); refine store_event (t := 5) (p := 36) (v := ?vo_w22) (w1 := (wr.setCell ⟨go19, ((ji16) : Int).toNat, none⟩ (.int .u8 (Go.bits .xor .u8 (rd x5_2 (ji16)) 255)))) ?hg ?ho ?hn ?hr ?_; (case ho => rfl); (case hg => rfl); (case hn => rfl); (case hr => first | (go_simp; done) | (go_simp; rfl)); intro w22 hw; have hg : wr.grownBy w22 (some go19) := (by rw [hw]; exact HP21.2); have hp_ : Kd.R (Kd.int .u8) 5 w22 w.heap.size (fun _ => True) (.slice (some ⟨go19, 0, none⟩) x5_2.length co20) y184 := (by rw [hw, Ny184.out]; exact HP21.1); clear HP21; have n0_ := Aside0.mk (hp_); have n1_ := Aside0.mk (Kd.R_over' (v := (.slice (some ⟨go19, 0, none⟩) x5_2.length co20)) (by (with_reducible repeat (first | apply Kd.R_alloc | apply Kd.R_drewN | apply Kd.R_drew)); exact HO_21.out) (Kd.R_typed HO_5.out) (by decide) hg); have n2_ := Aside0.mk ((by rw [hw]; exact below_set (HB.out) GB19.out : Below w.heap.size w w22)); clear HO_5; clear HO_21; clear HB; have HO_5 := n0_; have HO_21 := n1_; have HB := n2_; clear n0_ n1_ n2_; clear hg hw hp_))
                        go_roundg k2
                        case measure => have := HJ2.out; have := HK2.out; omega
                        case rel => exact ⟨(y184), (wrap64 (x23_2 + 1)), (by first | rfl | (simp; done) | (simp [*]; done)), H', ⟨by have := HJ2.out; have := HK2.out; omega⟩, ⟨by (with_reducible repeat (first | apply Kd.R_alloc | apply Kd.R_drewN | apply Kd.R_drew)); exact HO_5.out⟩, ⟨by (with_reducible repeat (first | apply Kd.R_alloc | apply Kd.R_drewN | apply Kd.R_drew)); exact HO_21.out⟩, ⟨by repeat (first | (with_reducible first | exact HB.out | apply below_alloc | apply pw_below_drewN | apply below_drew1) | exact HB.out)⟩⟩
                      · rw [if_neg c18] at H
                        exact absurd H (by simp)
                    · rw [if_neg c17] at H
                      exact absurd H (by simp)
                  · rw [if_neg c15] at H
                    have c15b0 : (a1 == 2) = false := beq_eq_false_iff_ne.mpr c15
                    have c15b1 : (a1 != 2) = true := bne_iff_ne.mpr c15
                    by_cases c23 : 0 ≤ (rd y179 x23_2)
                    · rw [if_pos c23] at H
                      have c23b0 : decide (0 ≤ (rd y179 x23_2)) = true := decide_eq_true c23
                      clear c23
                      by_cases c24 : (rd y179 x23_2) < (x5_2.length : Int)
                      · rw [if_pos c24] at H
                        have c24b0 : decide ((rd y179 x23_2) < (x5_2.length : Int)) = true := decide_eq_true c24
                        clear c24
                        obtain ⟨y186, hy186⟩ : ∃ y_ : List Int, y_ = (x5_2.set ((rd y179 x23_2) : Int).toNat (Go.bits .xor .u8 (rd x5_2 (rd y179 x23_2)) 255)) := ⟨_, rfl⟩
                        replace H : (spec_Variant.l0 k2 a1 y186 y179 (y179.length : Int) (wrap64 (x23_2 + 1))) = some r := by first | (rw [hy186]; with_reducible exact H) | (have H2_ := (Option.bind_some _ _).symm.trans H; rw [hy186]; with_reducible exact H2_) | (have H2_ := (Option.bind_some _ _).symm.trans H; with_reducible exact H2_) | with_reducible exact H | (rw [hy186]; exact H) | exact H
                        have Ny186 := Aside0.mk hy186
                        clear hy186
                        have H' := Aside0.mk H
                        clear H
                        have p182 : 0 ≤ (x23_2 : Int) := of_decide_eq_true (by first | (with_reducible assumption) | assumption)
                        have q182 : x23_2 < (y179.length : Int) := of_decide_eq_true (by first | (with_reducible assumption) | assumption)
                        obtain ⟨ad182, e182, hx182_0⟩ := Kd.at_int (Kd.R_reads' HO_21.out).2.2 x23_2 p182 q182
                        cases e182
                        replace p182 := eq_true p182
                        replace q182 := eq_true q182
                        obtain ⟨Ao26, co26, eo26⟩ := Kd.R_slice HO_5.out
                        subst eo26
                        have p185 : 0 ≤ ((rd y179 x23_2) : Int) := of_decide_eq_true (by first | (with_reducible assumption) | assumption)
                        have q185 : (rd y179 x23_2) < (x5_2.length : Int) := of_decide_eq_true (by first | (with_reducible assumption) | assumption)
                        obtain ⟨ad185, e185, hx185_0⟩ := Kd.at_int (Kd.R_reads' HO_5.out).2.2 (rd y179 x23_2) p185 q185
                        cases e185
                        replace p185 := eq_true p185
                        replace q185 := eq_true q185
                        have p25 : 0 ≤ ((rd y179 x23_2) : Int) := of_decide_eq_true (by first | (with_reducible assumption) | assumption)
                        have q25 : ((rd y179 x23_2) : Int) < ((x5_2.length : Int) : Int) := of_decide_eq_true (by first | (with_reducible assumption) | assumption)
                        obtain ⟨go25, co25, eo25, gb25, gl25, cl25, HG25⟩ := Kd.R_form HO_5.out (by omega)
                        (first | cases eo25 | (injection eo25 with ea_ en_ ec_; (first | subst ea_ | (injection ea_ with ea_; subst ea_)); subst ec_; clear en_))
                        have GB25 := Aside0.mk gb25
                        have GG25 := Aside0.mk HG25
                        clear gb25 gl25 HG25
                        (first | simp only [add_plain] at hx185_0 | skip)
                        obtain ⟨hx25_0, hf25_0⟩ := Kd.R_celln 0 HO_5.out ((rd y179 x23_2) : Int) p25 q25
                        replace p25 := eq_true p25
                        replace q25 := eq_true q25
                        have HP27 := Kd.R_putg HO_5.out ((rd y179 x23_2) : Int) (Go.bits .xor .u8 (rd x5_2 (rd y179 x23_2)) 255)
                        go_wp2_with (first | ((with_reducible refine gate_store (t := 5) (p := 36) rfl ?_); refine store_event (t := 5) (p := 36) (v := ?vo_w28) (w1 := (wr.setCell ⟨go25, ((rd y179 x23_2) : Int).toNat, none⟩ (.int .u8 (Go.bits .xor .u8 (rd x5_2 (rd y179 x23_2)) 255)))) ?hg ?ho ?hn ?hr ?_; (case ho => rfl); (case hg => rfl); (case hn => rfl); (case hr => first | (go_simp; done) | (go_simp; rfl)); intro w28 hw; have hg : wr.grownBy w28 (some go25) := (by rw [hw]; exact HP27.2); have hp_ : Kd.R (Kd.int .u8) 5 w28 w.heap.size (fun _ => True) (.slice (some ⟨go25, 0, none⟩) x5_2.length co26) y186 := (by rw [hw, Ny186.out]; exact HP27.1); clear HP27; have n0_ := Aside0.mk (hp_); have n1_ := Aside0.mk (Kd.R_over' (v := (.slice (some ⟨go25, 0, none⟩) x5_2.length co26)) (by (with_reducible repeat (first | apply Kd.R_alloc | apply Kd.R_drewN | apply Kd.R_drew)); exact HO_21.out) (Kd.R_typed HO_5.out) (by decide) hg); have n2_ := Aside0.mk ((by rw [hw]; exact below_set (HB.out) GB25.out : Below w.heap.size w w28)); clear HO_5; clear HO_21; clear HB; have HO_5 := n0_; have HO_21 := n1_; have HB := n2_; clear n0_ n1_ n2_; clear hg hw hp_))
                        go_roundg k2
                        case measure => have := HJ2.out; have := HK2.out; omega
                        case rel => exact ⟨(y186), (wrap64 (x23_2 + 1)), (by first | rfl | (simp; done) | (simp [*]; done)), H', ⟨by have := HJ2.out; have := HK2.out; omega⟩, ⟨by (with_reducible repeat (first | apply Kd.R_alloc | apply Kd.R_drewN | apply Kd.R_drew)); exact HO_5.out⟩, ⟨by (with_reducible repeat (first | apply Kd.R_alloc | apply Kd.R_drewN | apply Kd.R_drew)); exact HO_21.out⟩, ⟨by repeat (first | (with_reducible first | exact HB.out | apply below_alloc | apply pw_below_drewN | apply below_drew1) | exact HB.out)⟩⟩
                      · rw [if_neg c24] at H
                        exact absurd H (by simp)
                    · rw [if_neg c23] at H
                      exact absurd H (by simp)
                · rw [if_neg c14] at H
                  exact absurd H (by simp)
              · rw [if_neg c13] at H
                exact absurd H (by simp)
            · rw [if_neg c12] at H
              have c12b0 : decide (x23_2 < (y179.length : Int)) = false := decide_eq_false c12
              clear c12
              obtain rfl := Option.some.inj H
              go_wp2
              go_ret
              exact ⟨_, by first | rfl | (simp [errW_none, errW_some] <;> rfl) | (simp [*, errW_none, errW_some] <;> rfl), by (with_reducible repeat (first | apply Kd.R_alloc | apply Kd.R_drewN | apply Kd.R_drew)); exact HO_5.out, by repeat (first | (with_reducible first | exact HB.out | apply below_alloc | apply pw_below_drewN | apply below_drew1) | exact HB.out)⟩

def spec_l3Count.f (l0 : List Int) : Option (Int × List Int) := if 7 < (l0.length : Int) then (if 8 < (l0.length : Int) then (if 9 < (l0.length : Int) then ((spec_l1Bytes.f l0).bind fun t190 => (if 7 < (t190.length : Int) then (if 8 < (t190.length : Int) then (if 9 < (t190.length : Int) then (some (Go.bits .or .i64 (Go.bits .or .i64 (wrap64 ((wrap64 (Go.bits .and .u8 (rd l0 7) 31)) * 65536)) (wrap64 ((wrap64 (rd l0 8)) * 256))) (wrap64 (rd l0 9)), (((t190.set (7 : Int).toNat (Go.bits .and .u8 (rd t190 7) 224)).set (8 : Int).toNat 0).set (9 : Int).toNat 0))) else (none)) else (none)) else (none))) else (none)) else (none)) else (none)
set_option maxHeartbeats 8000000 in
set_option maxRecDepth 100000 in
theorem spec_l3Count.calls (A0 : Option Addr) (c0 : Nat) (l0 : List Int) (r1 : Int) (r2 : List Int) (w : World) (hr0 : Kd.C (Kd.int .u8) w A0 l0.length l0) (hc0 : l0.length ≤ c0) (h : spec_l3Count.f l0 = some (r1, r2)) :
    Calls Try.prog 103 #[.slice A0 l0.length c0] w fun e w' => ∃ v1_ : Value, e = .returned (.tuple #[.int .i64 r1, v1_]) ∧ Kd.R (Kd.int .u8) 5 w' w.heap.size (fun _ => True) v1_ r2 ∧ Below w.heap.size w w' := by
  have HR0 := Aside0.mk hr0
  have HC0 := Aside0.mk hc0
  clear hr0 hc0
  have HB := Aside0.mk (Below.refl w.heap.size w)
  have H : (if 7 < (l0.length : Int) then (if 8 < (l0.length : Int) then (if 9 < (l0.length : Int) then ((spec_l1Bytes.f l0).bind fun t190 => (if 7 < (t190.length : Int) then (if 8 < (t190.length : Int) then (if 9 < (t190.length : Int) then (some (Go.bits .or .i64 (Go.bits .or .i64 (wrap64 ((wrap64 (Go.bits .and .u8 (rd l0 7) 31)) * 65536)) (wrap64 ((wrap64 (rd l0 8)) * 256))) (wrap64 (rd l0 9)), (((t190.set (7 : Int).toNat (Go.bits .and .u8 (rd t190 7) 224)).set (8 : Int).toNat 0).set (9 : Int).toNat 0))) else (none)) else (none)) else (none))) else (none)) else (none)) else (none)) = some (r1, r2) := h
  clear h
  by_cases c2 : 7 < (l0.length : Int)
  · rw [if_pos c2] at H
    have c2b0 : decide (7 < (l0.length : Int)) = true := decide_eq_true c2
    have c2b1 : decide (7 < l0.length) = true := decide_eq_true (by omega)
    clear c2
    by_cases c3 : 8 < (l0.length : Int)
    · rw [if_pos c3] at H
      have c3b0 : decide (8 < (l0.length : Int)) = true := decide_eq_true c3
      have c3b1 : decide (8 < l0.length) = true := decide_eq_true (by omega)
      clear c3
      by_cases c4 : 9 < (l0.length : Int)
      · rw [if_pos c4] at H
        have c4b0 : decide (9 < (l0.length : Int)) = true := decide_eq_true c4
        have c4b1 : decide (9 < l0.length) = true := decide_eq_true (by omega)
        clear c4
        replace H := Option.bind_eq_some_iff.mp H
        obtain ⟨t190, A50, H⟩ := H
        replace H : (if 7 < (t190.length : Int) then (if 8 < (t190.length : Int) then (if 9 < (t190.length : Int) then (some (Go.bits .or .i64 (Go.bits .or .i64 (wrap64 ((wrap64 (Go.bits .and .u8 (rd l0 7) 31)) * 65536)) (wrap64 ((wrap64 (rd l0 8)) * 256))) (wrap64 (rd l0 9)), (((t190.set (7 : Int).toNat (Go.bits .and .u8 (rd t190 7) 224)).set (8 : Int).toNat 0).set (9 : Int).toNat 0))) else (none)) else (none)) else (none)) = some (r1, r2) := H
        have A5 := Aside0.mk A50
        clear A50
        by_cases c6 : 7 < (t190.length : Int)
        · rw [if_pos c6] at H
          have c6b0 : decide (7 < (t190.length : Int)) = true := decide_eq_true c6
          have c6b1 : decide (7 < t190.length) = true := decide_eq_true (by omega)
          clear c6
          obtain ⟨y194, hy194⟩ : ∃ y_ : List Int, y_ = (t190.set (7 : Int).toNat (Go.bits .and .u8 (rd t190 7) 224)) := ⟨_, rfl⟩
          replace H : (if 8 < (t190.length : Int) then (if 9 < (t190.length : Int) then (some (Go.bits .or .i64 (Go.bits .or .i64 (wrap64 ((wrap64 (Go.bits .and .u8 (rd l0 7) 31)) * 65536)) (wrap64 ((wrap64 (rd l0 8)) * 256))) (wrap64 (rd l0 9)), ((y194.set (8 : Int).toNat 0).set (9 : Int).toNat 0))) else (none)) else (none)) = some (r1, r2) := by first | (rw [hy194]; with_reducible exact H) | (have H2_ := (Option.bind_some _ _).symm.trans H; rw [hy194]; with_reducible exact H2_) | (have H2_ := (Option.bind_some _ _).symm.trans H; with_reducible exact H2_) | with_reducible exact H | (rw [hy194]; exact H) | exact H
          have Ny194 := Aside0.mk hy194
          clear hy194
          by_cases c8 : 8 < (t190.length : Int)
          · rw [if_pos c8] at H
            have c8b0 : decide (8 < (t190.length : Int)) = true := decide_eq_true c8
            have c8b1 : decide (8 < t190.length) = true := decide_eq_true (by omega)
            clear c8
            obtain ⟨y195, hy195⟩ : ∃ y_ : List Int, y_ = (y194.set (8 : Int).toNat 0) := ⟨_, rfl⟩
            replace H : (if 9 < (t190.length : Int) then (some (Go.bits .or .i64 (Go.bits .or .i64 (wrap64 ((wrap64 (Go.bits .and .u8 (rd l0 7) 31)) * 65536)) (wrap64 ((wrap64 (rd l0 8)) * 256))) (wrap64 (rd l0 9)), (y195.set (9 : Int).toNat 0))) else (none)) = some (r1, r2) := by first | (rw [hy195]; with_reducible exact H) | (have H2_ := (Option.bind_some _ _).symm.trans H; rw [hy195]; with_reducible exact H2_) | (have H2_ := (Option.bind_some _ _).symm.trans H; with_reducible exact H2_) | with_reducible exact H | (rw [hy195]; exact H) | exact H
            have Ny195 := Aside0.mk hy195
            clear hy195
            by_cases c10 : 9 < (t190.length : Int)
            · rw [if_pos c10] at H
              have c10b0 : decide (9 < (t190.length : Int)) = true := decide_eq_true c10
              have c10b1 : decide (9 < t190.length) = true := decide_eq_true (by omega)
              clear c10
              obtain ⟨y196, hy196⟩ : ∃ y_ : List Int, y_ = (y195.set (9 : Int).toNat 0) := ⟨_, rfl⟩
              replace H : (some (Go.bits .or .i64 (Go.bits .or .i64 (wrap64 ((wrap64 (Go.bits .and .u8 (rd l0 7) 31)) * 65536)) (wrap64 ((wrap64 (rd l0 8)) * 256))) (wrap64 (rd l0 9)), y196)) = some (r1, r2) := by first | (rw [hy196]; with_reducible exact H) | (have H2_ := (Option.bind_some _ _).symm.trans H; rw [hy196]; with_reducible exact H2_) | (have H2_ := (Option.bind_some _ _).symm.trans H; with_reducible exact H2_) | with_reducible exact H | (rw [hy196]; exact H) | exact H
              have Ny196 := Aside0.mk hy196
              clear hy196
              simp only [Option.some.injEq, Prod.mk.injEq] at H
              obtain ⟨rfl, rfl⟩ := H
              have p187 : 0 ≤ (7 : Int) := (by omega)
              have q187 : 7 < (l0.length : Int) := of_decide_eq_true (by first | (with_reducible assumption) | assumption)
              obtain ⟨ad187, e187, hx187_0⟩ := Kd.at_int HR0.out 7 p187 q187
              cases e187
              (try simp only [show (7 : Int).toNat = 7 from rfl, Nat.reduceMul, Nat.reduceEqDiff, Go.Addr.add, ↓reduceIte] at hx187_0)
              have qi187 : (7 < l0.length) = True := eq_true (by omega)
              (try rw [show ((7 : Int)).toNat = 7 from rfl] at hx187_0)
              replace p187 := eq_true p187
              replace q187 := eq_true q187
              have p188 : 0 ≤ (8 : Int) := (by omega)
              have q188 : 8 < (l0.length : Int) := of_decide_eq_true (by first | (with_reducible assumption) | assumption)
              obtain ⟨ad188, e188, hx188_0⟩ := Kd.at_int HR0.out 8 p188 q188
              obtain rfl : ad187 = ad188 := (by injection e188)
              (try simp only [show (8 : Int).toNat = 8 from rfl, Nat.reduceMul, Nat.reduceEqDiff, Go.Addr.add, ↓reduceIte] at hx188_0)
              have qi188 : (8 < l0.length) = True := eq_true (by omega)
              (try rw [show ((8 : Int)).toNat = 8 from rfl] at hx188_0)
              replace p188 := eq_true p188
              replace q188 := eq_true q188
              have p189 : 0 ≤ (9 : Int) := (by omega)
              have q189 : 9 < (l0.length : Int) := of_decide_eq_true (by first | (with_reducible assumption) | assumption)
              obtain ⟨ad189, e189, hx189_0⟩ := Kd.at_int HR0.out 9 p189 q189
              obtain rfl : ad187 = ad189 := (by injection e189)
              (try simp only [show (9 : Int).toNat = 9 from rfl, Nat.reduceMul, Nat.reduceEqDiff, Go.Addr.add, ↓reduceIte] at hx189_0)
              have qi189 : (9 < l0.length) = True := eq_true (by omega)
              (try rw [show ((9 : Int)).toNat = 9 from rfl] at hx189_0)
              replace p189 := eq_true p189
              replace q189 := eq_true q189
              go_enter Try.func103, Try.ntmps103
              go_wp2_with (first | (go_at_call 97; (with_reducible refine (spec_l1Bytes.calls _ _ l0 t190 _ ?side1 ?side2 A5.out).mono ?_); (case side1 => repeat (first | exact HR0.out | (with_reducible refine Kd.C_alloc ?_ _) | (with_reducible refine Kd.C_drewN ?_ _) | (with_reducible refine Kd.C_drew ?_))); (case side2 => exact HC0.out); rintro e w12 ⟨v191, rfl, ho0, hb⟩; have n0_ := Aside0.mk (Kd.R_lower ho0 (below_size (by repeat (first | (with_reducible first | exact HB.out | apply below_alloc | apply pw_below_drewN | apply below_drew1) | exact HB.out)))); have n1_ := Aside0.mk (below_step (by repeat (first | (with_reducible first | exact HB.out | apply below_alloc | apply pw_below_drewN | apply below_drew1) | exact HB.out)) hb); clear HB; have HO192 := n0_; have HB := n1_; clear n0_ n1_; (try clear hb); (try clear hb2); (try clear hk); (try clear hi); (try clear ho0); obtain ⟨Ao13, co13, eo13⟩ := Kd.R_slice HO192.out; subst eo13; have p193 : 0 ≤ (7 : Int) := (by omega); have q193 : 7 < (t190.length : Int) := of_decide_eq_true (by first | (with_reducible assumption) | assumption); obtain ⟨ad193, e193, hx193_0⟩ := Kd.at_int (Kd.R_reads' HO192.out).2.2 7 p193 q193; cases e193; (try simp only [show (7 : Int).toNat = 7 from rfl, Nat.reduceMul, Nat.reduceEqDiff, Go.Addr.add, ↓reduceIte] at hx193_0); have qi193 : (7 < t190.length) = True := eq_true (by omega); (try rw [show ((7 : Int)).toNat = 7 from rfl] at hx193_0); replace p193 := eq_true p193; replace q193 := eq_true q193; have p7 : 0 ≤ (7 : Int) := (by omega); have q7 : (7 : Int) < ((t190.length : Int) : Int) := of_decide_eq_true (by first | (with_reducible assumption) | assumption); have qi7 : (7 < t190.length) = True := eq_true (by omega); obtain ⟨go7, co7, eo7, gb7, gl7, cl7, HG7⟩ := Kd.R_form HO192.out (by omega); (first | cases eo7 | (injection eo7 with ea_ en_ ec_; (first | subst ea_ | (injection ea_ with ea_; subst ea_)); subst ec_; clear en_)); have GB7 := Aside0.mk gb7; have GG7 := Aside0.mk HG7; clear gb7 gl7 HG7; (first | simp only [add_plain] at hx193_0 | skip); obtain ⟨hx7_0, hf7_0⟩ := Kd.R_celln 0 HO192.out (7 : Int) p7 q7; (try rw [show ((7 : Int)).toNat = 7 from rfl] at hx7_0); (try simp only [Nat.reduceMul, Nat.zero_mul, Nat.zero_add, Nat.reduceAdd] at hx7_0); (try rw [show ((7 : Int)).toNat = 7 from rfl] at hf7_0); (try simp only [Nat.reduceMul, Nat.zero_mul, Nat.zero_add, Nat.reduceAdd] at hf7_0); replace p7 := eq_true p7; replace q7 := eq_true q7; obtain ⟨hy14_, hz14_⟩ := Kd.R_celln 0 HO192.out (7 : Int) (by omega) (of_decide_eq_true (by first | (with_reducible assumption) | assumption)); (try simp only [Int.reduceToNat, Int.toNat_zero, Int.toNat_ofNat, Nat.reduceMul, Nat.zero_mul, Nat.zero_add] at hy14_ hz14_); (try rw [show ((7 : Int)).toNat = 7 from rfl] at hy14_); (try rw [show ((7 : Int)).toNat = 7 from rfl] at hz14_); have HP14 := Kd.R_putg HO192.out (7 : Int) (Go.bits .and .u8 (rd t190 7) 224)) | ((with_reducible refine gate_store (t := 5) (p := 29) rfl ?_); (try (rw [drewN_self w12]; generalize hq_ : World.drewN w12 _ = w12; have n0_ := Aside0.mk (Kd.R_at hq_ HO192.out); have n1_ := Aside0.mk (below_at hq_ HB.out); clear hq_ HO192 HB; have HO192 := n0_; have HB := n1_; clear n0_ n1_; (try (obtain ⟨hy14_, hz14_⟩ := Kd.R_celln 0 HO192.out (7 : Int) (by omega) (of_decide_eq_true (by first | (with_reducible assumption) | assumption)))); (try (try simp only [Int.reduceToNat, Int.toNat_zero, Int.toNat_ofNat, Nat.reduceMul, Nat.zero_mul, Nat.zero_add] at hy14_ hz14_)); (try (try rw [show ((7 : Int)).toNat = 7 from rfl] at hy14_)); (try (try rw [show ((7 : Int)).toNat = 7 from rfl] at hz14_)); (try (have HP14 := Kd.R_putg HO192.out (7 : Int) (Go.bits .and .u8 (rd t190 7) 224))))); refine store_event (t := 5) (p := 29) (v := ?vo_w15) (w1 := (w12.setCell ⟨go7, (7 : Int).toNat, none⟩ (.int .u8 (Go.bits .and .u8 (rd t190 7) 224)))) ?hg ?ho ?hn ?hr ?_; (case ho => rfl); (case hg => rfl); (case hn => rfl); (case hr => first | (go_simp; done) | (go_simp; rfl)); intro w15 hw; have hg : w12.grownBy w15 (some go7) := (by rw [hw]; exact HP14.2); have hp_ : Kd.R (Kd.int .u8) 5 w15 w.heap.size (fun _ => True) (.slice (some ⟨go7, 0, none⟩) t190.length co13) y194 := (by rw [hw, Ny194.out]; exact HP14.1); clear HP14; have n0_ := Aside0.mk (hp_); have n1_ := Aside0.mk ((by rw [hw]; exact below_set (HB.out) GB7.out : Below w.heap.size w w15)); clear HO192; clear HB; have HO192 := n0_; have HB := n1_; clear n0_ n1_; clear hg hw hp_; have p9 : 0 ≤ (8 : Int) := (by omega); have q9 : (8 : Int) < ((t190.length : Int) : Int) := of_decide_eq_true (by first | (with_reducible assumption) | assumption); have qi9 : (8 < t190.length) = True := eq_true (by omega); obtain ⟨hx9_0, hf9_0⟩ := Kd.R_celln 0 HO192.out (8 : Int) p9 q9; (try rw [show ((8 : Int)).toNat = 8 from rfl] at hx9_0); (try simp only [Nat.reduceMul, Nat.zero_mul, Nat.zero_add, Nat.reduceAdd] at hx9_0); (try rw [show ((8 : Int)).toNat = 8 from rfl] at hf9_0); (try simp only [Nat.reduceMul, Nat.zero_mul, Nat.zero_add, Nat.reduceAdd] at hf9_0); replace p9 := eq_true p9; replace q9 := eq_true q9; obtain ⟨hy16_, hz16_⟩ := Kd.R_celln 0 HO192.out (8 : Int) (by omega) (of_decide_eq_true (by first | (with_reducible assumption) | assumption)); (try simp only [Int.reduceToNat, Int.toNat_zero, Int.toNat_ofNat, Nat.reduceMul, Nat.zero_mul, Nat.zero_add] at hy16_ hz16_); (try rw [show ((8 : Int)).toNat = 8 from rfl] at hy16_); (try rw [show ((8 : Int)).toNat = 8 from rfl] at hz16_); have HP16 := Kd.R_putg HO192.out (8 : Int) 0) | ((with_reducible refine gate_store (t := 5) (p := 31) rfl ?_); (try (rw [drewN_self w15]; generalize hq_ : World.drewN w15 _ = w15; have n0_ := Aside0.mk (Kd.R_at hq_ HO192.out); have n1_ := Aside0.mk (below_at hq_ HB.out); clear hq_ HO192 HB; have HO192 := n0_; have HB := n1_; clear n0_ n1_; (try (obtain ⟨hy16_, hz16_⟩ := Kd.R_celln 0 HO192.out (8 : Int) (by omega) (of_decide_eq_true (by first | (with_reducible assumption) | assumption)))); (try (try simp only [Int.reduceToNat, Int.toNat_zero, Int.toNat_ofNat, Nat.reduceMul, Nat.zero_mul, Nat.zero_add] at hy16_ hz16_)); (try (try rw [show ((8 : Int)).toNat = 8 from rfl] at hy16_)); (try (try rw [show ((8 : Int)).toNat = 8 from rfl] at hz16_)); (try (have HP16 := Kd.R_putg HO192.out (8 : Int) 0)))); refine store_event (t := 5) (p := 31) (v := ?vo_w17) (w1 := (w15.setCell ⟨go7, (8 : Int).toNat, none⟩ (.int .u8 0))) ?hg ?ho ?hn ?hr ?_; (case ho => rfl); (case hg => rfl); (case hn => rfl); (case hr => first | (go_simp; done) | (go_simp; rfl)); intro w17 hw; have hg : w15.grownBy w17 (some go7) := (by rw [hw]; exact HP16.2); have hp_ : Kd.R (Kd.int .u8) 5 w17 w.heap.size (fun _ => True) (.slice (some ⟨go7, 0, none⟩) t190.length co13) y195 := (by rw [hw, Ny195.out]; exact HP16.1); clear HP16; have n0_ := Aside0.mk (hp_); have n1_ := Aside0.mk ((by rw [hw]; exact below_set (HB.out) GB7.out : Below w.heap.size w w17)); clear HO192; clear HB; have HO192 := n0_; have HB := n1_; clear n0_ n1_; clear hg hw hp_; have p11 : 0 ≤ (9 : Int) := (by omega); have q11 : (9 : Int) < ((t190.length : Int) : Int) := of_decide_eq_true (by first | (with_reducible assumption) | assumption); have qi11 : (9 < t190.length) = True := eq_true (by omega); obtain ⟨hx11_0, hf11_0⟩ := Kd.R_celln 0 HO192.out (9 : Int) p11 q11; (try rw [show ((9 : Int)).toNat = 9 from rfl] at hx11_0); (try simp only [Nat.reduceMul, Nat.zero_mul, Nat.zero_add, Nat.reduceAdd] at hx11_0); (try rw [show ((9 : Int)).toNat = 9 from rfl] at hf11_0); (try simp only [Nat.reduceMul, Nat.zero_mul, Nat.zero_add, Nat.reduceAdd] at hf11_0); replace p11 := eq_true p11; replace q11 := eq_true q11; obtain ⟨hy18_, hz18_⟩ := Kd.R_celln 0 HO192.out (9 : Int) (by omega) (of_decide_eq_true (by first | (with_reducible assumption) | assumption)); (try simp only [Int.reduceToNat, Int.toNat_zero, Int.toNat_ofNat, Nat.reduceMul, Nat.zero_mul, Nat.zero_add] at hy18_ hz18_); (try rw [show ((9 : Int)).toNat = 9 from rfl] at hy18_); (try rw [show ((9 : Int)).toNat = 9 from rfl] at hz18_); have HP18 := Kd.R_putg HO192.out (9 : Int) 0) | ((with_reducible refine gate_store (t := 5) (p := 33) rfl ?_); (try (rw [drewN_self w17]; generalize hq_ : World.drewN w17 _ = w17; have n0_ := Aside0.mk (Kd.R_at hq_ HO192.out); have n1_ := Aside0.mk (below_at hq_ HB.out); clear hq_ HO192 HB; have HO192 := n0_; have HB := n1_; clear n0_ n1_; (try (obtain ⟨hy18_, hz18_⟩ := Kd.R_celln 0 HO192.out (9 : Int) (by omega) (of_decide_eq_true (by first | (with_reducible assumption) | assumption)))); (try (try simp only [Int.reduceToNat, Int.toNat_zero, Int.toNat_ofNat, Nat.reduceMul, Nat.zero_mul, Nat.zero_add] at hy18_ hz18_)); (try (try rw [show ((9 : Int)).toNat = 9 from rfl] at hy18_)); (try (try rw [show ((9 : Int)).toNat = 9 from rfl] at hz18_)); (try (have HP18 := Kd.R_putg HO192.out (9 : Int) 0)))); refine store_event (t := 5) (p := 33) (v := ?vo_w19) (w1 := (w17.setCell ⟨go7, (9 : Int).toNat, none⟩ (.int .u8 0))) ?hg ?ho ?hn ?hr ?_; (case ho => rfl); (case hg => rfl); (case hn => rfl); (case hr => first | (go_simp; done) | (go_simp; rfl)); intro w19 hw; have hg : w17.grownBy w19 (some go7) := (by rw [hw]; exact HP18.2); have hp_ : Kd.R (Kd.int .u8) 5 w19 w.heap.size (fun _ => True) (.slice (some ⟨go7, 0, none⟩) t190.length co13) y196 := (by rw [hw, Ny196.out]; exact HP18.1); clear HP18; have n0_ := Aside0.mk (hp_); have n1_ := Aside0.mk ((by rw [hw]; exact below_set (HB.out) GB7.out : Below w.heap.size w w19)); clear HO192; clear HB; have HO192 := n0_; have HB := n1_; clear n0_ n1_; clear hg hw hp_))
              repeat (go_quiet (first | (go_at_call 97; (with_reducible refine (spec_l1Bytes.calls _ _ l0 t190 _ ?side1 ?side2 A5.out).mono ?_); (case side1 => repeat (first | exact HR0.out | (with_reducible refine Kd.C_alloc ?_ _) | (with_reducible refine Kd.C_drewN ?_ _) | (with_reducible refine Kd.C_drew ?_))); (case side2 => exact HC0.out); rintro e w12 ⟨v191, rfl, ho0, hb⟩; have n0_ := Aside0.mk (Kd.R_lower ho0 (below_size (by repeat (first | (with_reducible first | exact HB.out | apply below_alloc | apply pw_below_drewN | apply below_drew1) | exact HB.out)))); have n1_ := Aside0.mk (below_step (by repeat (first | (with_reducible first | exact HB.out | apply below_alloc | apply pw_below_drewN | apply below_drew1) | exact HB.out)) hb); clear HB; have HO192 := n0_; have HB := n1_; clear n0_ n1_; (try clear hb); (try clear hb2); (try clear hk); (try clear hi); (try clear ho0); obtain ⟨Ao13, co13, eo13⟩ := Kd.R_slice HO192.out; subst eo13; have p193 : 0 ≤ (7 : Int) := (by omega); have q193 : 7 < (t190.length : Int) := of_decide_eq_true (by first | (with_reducible assumption) | assumption); obtain ⟨ad193, e193, hx193_0⟩ := Kd.at_int (Kd.R_reads' HO192.out).2.2 7 p193 q193; cases e193; (try simp only [show (7 : Int).toNat = 7 from rfl, Nat.reduceMul, Nat.reduceEqDiff, Go.Addr.add, ↓reduceIte] at hx193_0); have qi193 : (7 < t190.length) = True := eq_true (by omega); (try rw [show ((7 : Int)).toNat = 7 from rfl] at hx193_0); replace p193 := eq_true p193; replace q193 := eq_true q193; have p7 : 0 ≤ (7 : Int) := (by omega); have q7 : (7 : Int) < ((t190.length : Int) : Int) := of_decide_eq_true (by first | (with_reducible assumption) | assumption); have qi7 : (7 < t190.length) = True := eq_true (by omega); obtain ⟨go7, co7, eo7, gb7, gl7, cl7, HG7⟩ := Kd.R_form HO192.out (by omega); (first | cases eo7 | (injection eo7 with ea_ en_ ec_; (first | subst ea_ | (injection ea_ with ea_; subst ea_)); subst ec_; clear en_)); have GB7 := Aside0.mk gb7; have GG7 := Aside0.mk HG7; clear gb7 gl7 HG7; (first | simp only [add_plain] at hx193_0 | skip); obtain ⟨hx7_0, hf7_0⟩ := Kd.R_celln 0 HO192.out (7 : Int) p7 q7; (try rw [show ((7 : Int)).toNat = 7 from rfl] at hx7_0); (try simp only [Nat.reduceMul, Nat.zero_mul, Nat.zero_add, Nat.reduceAdd] at hx7_0); (try rw [show ((7 : Int)).toNat = 7 from rfl] at hf7_0); (try simp only [Nat.reduceMul, Nat.zero_mul, Nat.zero_add, Nat.reduceAdd] at hf7_0); replace p7 := eq_true p7; replace q7 := eq_true q7; obtain ⟨hy14_, hz14_⟩ := Kd.R_celln 0 HO192.out (7 : Int) (by omega) (of_decide_eq_true (by first | (with_reducible assumption) | assumption)); (try simp only [Int.reduceToNat, Int.toNat_zero, Int.toNat_ofNat, Nat.reduceMul, Nat.zero_mul, Nat.zero_add] at hy14_ hz14_); (try rw [show ((7 : Int)).toNat = 7 from rfl] at hy14_); (try rw [show ((7 : Int)).toNat = 7 from rfl] at hz14_); have HP14 := Kd.R_putg HO192.out (7 : Int) (Go.bits .and .u8 (rd t190 7) 224)) | ((with_reducible refine gate_store (t := 5) (p := 29) rfl ?_); (try (rw [drewN_self w12]; generalize hq_ : World.drewN w12 _ = w12; have n0_ := Aside0.mk (Kd.R_at hq_ HO192.out); have n1_ := Aside0.mk (below_at hq_ HB.out); clear hq_ HO192 HB; have HO192 := n0_; have HB := n1_; clear n0_ n1_; (try (obtain ⟨hy14_, hz14_⟩ := Kd.R_celln 0 HO192.out (7 : Int) (by omega) (of_decide_eq_true (by first | (with_reducible assumption) | assumption)))); (try (try simp only [Int.reduceToNat, Int.toNat_zero, Int.toNat_ofNat, Nat.reduceMul, Nat.zero_mul, Nat.zero_add] at hy14_ hz14_)); (try (try rw [show ((7 : Int)).toNat = 7 from rfl] at hy14_)); (try (try rw [show ((7 : Int)).toNat = 7 from rfl] at hz14_)); (try (have HP14 := Kd.R_putg HO192.out (7 : Int) (Go.bits .and .u8 (rd t190 7) 224))))); refine store_event (t := 5) (p := 29) (v := ?vo_w15) (w1 := (w12.setCell ⟨go7, (7 : Int).toNat, none⟩ (.int .u8 (Go.bits .and .u8 (rd t190 7) 224)))) ?hg ?ho ?hn ?hr ?_; (case ho => rfl); (case hg => rfl); (case hn => rfl); (case hr => first | (go_simp; done) | (go_simp; rfl)); intro w15 hw; have hg : w12.grownBy w15 (some go7) := (by rw [hw]; exact HP14.2); have hp_ : Kd.R (Kd.int .u8) 5 w15 w.heap.size (fun _ => True) (.slice (some ⟨go7, 0, none⟩) t190.length co13) y194 := (by rw [hw, Ny194.out]; exact HP14.1); clear HP14; have n0_ := Aside0.mk (hp_); have n1_ := Aside0.mk ((by rw [hw]; exact below_set (HB.out) GB7.out : Below w.heap.size w w15)); clear HO192; clear HB; have HO192 := n0_; have HB := n1_; clear n0_ n1_; clear hg hw hp_; have p9 : 0 ≤ (8 : Int) := (by omega); have q9 : (8 : Int) < ((t190.length : Int) : Int) := of_decide_eq_true (by first | (with_reducible assumption) | assumption); have qi9 : (8 < t190.length) = True := eq_true (by omega); obtain ⟨hx9_0, hf9_0⟩ := Kd.R_celln 0 HO192.out (8 : Int) p9 q9; (try rw [show ((8 : Int)).toNat = 8 from rfl] at hx9_0); (try simp only [Nat.reduceMul, Nat.zero_mul, Nat.zero_add, Nat.reduceAdd] at hx9_0); (try rw [show ((8 : Int)).toNat = 8 from rfl] at hf9_0); (try simp only [Nat.reduceMul, Nat.zero_mul, Nat.zero_add, Nat.reduceAdd] at hf9_0); replace p9 := eq_true p9; replace q9 := eq_true q9; obtain ⟨hy16_, hz16_⟩ := Kd.R_celln 0 HO192.out (8 : Int) (by omega) (of_decide_eq_true (by first | (with_reducible assumption) | assumption)); (try simp only [Int.reduceToNat, Int.toNat_zero, Int.toNat_ofNat, Nat.reduceMul, Nat.zero_mul, Nat.zero_add] at hy16_ hz16_); (try rw [show ((8 : Int)).toNat = 8 from rfl] at hy16_); (try rw [show ((8 : Int)).toNat = 8 from rfl] at hz16_); have HP16 := Kd.R_putg HO192.out (8 : Int) 0) | ((with_reducible refine gate_store (t := 5) (p := 31) rfl ?_); (try (rw [drewN_self w15]; generalize hq_ : World.drewN w15 _ = w15; have n0_ := Aside0.mk (Kd.R_at hq_ HO192.out); have n1_ := Aside0.mk (below_at hq_ HB.out); clear hq_ HO192 HB; have HO192 := n0_; have HB := n1_; clear n0_ n1_; (try (obtain ⟨hy16_, hz16_⟩ := Kd.R_celln 0 HO192.out (8 : Int) (by omega) (of_decide_eq_true (by first | (with_reducible assumption) | assumption)))); (try (try simp only [Int.reduceToNat, Int.toNat_zero, Int.toNat_ofNat, Nat.reduceMul, Nat.zero_mul, Nat.zero_add] at hy16_ hz16_)); (try (try rw [show ((8 : Int)).toNat = 8 from rfl] at hy16_)); (try (try rw [show ((8 : Int)).toNat = 8 from rfl] at hz16_)); (try (have HP16 := Kd.R_putg HO192.out (8 : Int) 0)))); refine store_event (t := 5) (p := 31) (v := ?vo_w17) (w1 := (w15.setCell ⟨go7, (8 : Int).toNat, none⟩ (.int .u8 0))) ?hg ?ho ?hn ?hr ?_; (case ho => rfl); (case hg => rfl); (case hn => rfl); (case hr => first | (go_simp; done) | (go_simp; rfl)); intro w17 hw; have hg : w15.grownBy w17 (some go7) := (by rw [hw]; exact HP16.2); have hp_ : Kd.R (Kd.int .u8) 5 w17 w.heap.size (fun _ => True) (.slice (some ⟨go7, 0, none⟩) t190.length co13) y195 := (by rw [hw, Ny195.out]; exact HP16.1); clear HP16; have n0_ := Aside0.mk (hp_); have n1_ := Aside0.mk ((by rw [hw]; exact below_set (HB.out) GB7.out : Below w.heap.size w w17)); clear HO192; clear HB; have HO192 := n0_; have HB := n1_; clear n0_ n1_; clear hg hw hp_; have p11 : 0 ≤ (9 : Int) := (by omega); have q11 : (9 : Int) < ((t190.length : Int) : Int) := of_decide_eq_true (by first | (with_reducible assumption) | assumption); have qi11 : (9 < t190.length) = True := eq_true (by omega); obtain ⟨hx11_0, hf11_0⟩ := Kd.R_celln 0 HO192.out (9 : Int) p11 q11; (try rw [show ((9 : Int)).toNat = 9 from rfl] at hx11_0); (try simp only [Nat.reduceMul, Nat.zero_mul, Nat.zero_add, Nat.reduceAdd] at hx11_0); (try rw [show ((9 : Int)).toNat = 9 from rfl] at hf11_0); (try simp only [Nat.reduceMul, Nat.zero_mul, Nat.zero_add, Nat.reduceAdd] at hf11_0); replace p11 := eq_true p11; replace q11 := eq_true q11; obtain ⟨hy18_, hz18_⟩ := Kd.R_celln 0 HO192.out (9 : Int) (by omega) (of_decide_eq_true (by first | (with_reducible assumption) | assumption)); (try simp only [Int.reduceToNat, Int.toNat_zero, Int.toNat_ofNat, Nat.reduceMul, Nat.zero_mul, Nat.zero_add] at hy18_ hz18_); (try rw [show ((9 : Int)).toNat = 9 from rfl] at hy18_); (try rw [show ((9 : Int)).toNat = 9 from rfl] at hz18_); have HP18 := Kd.R_putg HO192.out (9 : Int) 0) | ((with_reducible refine gate_store (t := 5) (p := 33) rfl ?_); (try (rw [drewN_self w17]; generalize hq_ : World.drewN w17 _ = w17; have n0_ := Aside0.mk (Kd.R_at hq_ HO192.out); have n1_ := Aside0.mk (below_at hq_ HB.out); clear hq_ HO192 HB; have HO192 := n0_; have HB := n1_; clear n0_ n1_; (try (obtain ⟨hy18_, hz18_⟩ := Kd.R_celln 0 HO192.out (9 : Int) (by omega) (of_decide_eq_true (by first | (with_reducible assumption) | assumption)))); (try (try simp only [Int.reduceToNat, Int.toNat_zero, Int.toNat_ofNat, Nat.reduceMul, Nat.zero_mul, Nat.zero_add] at hy18_ hz18_)); (try (try rw [show ((9 : Int)).toNat = 9 from rfl] at hy18_)); (try (try rw [show ((9 : Int)).toNat = 9 from rfl] at hz18_)); (try (have HP18 := Kd.R_putg HO192.out (9 : Int) 0)))); refine store_event (t := 5) (p := 33) (v := ?vo_w19) (w1 := (w17.setCell ⟨go7, (9 : Int).toNat, none⟩ (.int .u8 0))) ?hg ?ho ?hn ?hr ?_; (case ho => rfl); (case hg => rfl); (case hn => rfl); (case hr => first | (go_simp; done) | (go_simp; rfl)); intro w19 hw; have hg : w17.grownBy w19 (some go7) := (by rw [hw]; exact HP18.2); have hp_ : Kd.R (Kd.int .u8) 5 w19 w.heap.size (fun _ => True) (.slice (some ⟨go7, 0, none⟩) t190.length co13) y196 := (by rw [hw, Ny196.out]; exact HP18.1); clear HP18; have n0_ := Aside0.mk (hp_); have n1_ := Aside0.mk ((by rw [hw]; exact below_set (HB.out) GB7.out : Below w.heap.size w w19)); clear HO192; clear HB; have HO192 := n0_; have HB := n1_; clear n0_ n1_; clear hg hw hp_)); try go_wp2_with (first | (go_at_call 97; (with_reducible refine (spec_l1Bytes.calls _ _ l0 t190 _ ?side1 ?side2 A5.out).mono ?_); (case side1 => repeat (first | exact HR0.out | (with_reducible refine Kd.C_alloc ?_ _) | (with_reducible refine Kd.C_drewN ?_ _) | (with_reducible refine Kd.C_drew ?_))); (case side2 => exact HC0.out); rintro e w12 ⟨v191, rfl, ho0, hb⟩; have n0_ := Aside0.mk (Kd.R_lower ho0 (below_size (by repeat (first | (with_reducible first | exact HB.out | apply below_alloc | apply pw_below_drewN | apply below_drew1) | exact HB.out)))); have n1_ := Aside0.mk (below_step (by repeat (first | (with_reducible first | exact HB.out | apply below_alloc | apply pw_below_drewN | apply below_drew1) | exact HB.out)) hb); clear HB; have HO192 := n0_; have HB := n1_; clear n0_ n1_; (try clear hb); (try clear hb2); (try clear hk); (try clear hi); (try clear ho0); obtain ⟨Ao13, co13, eo13⟩ := Kd.R_slice HO192.out; subst eo13; have p193 : 0 ≤ (7 : Int) := (by omega); have q193 : 7 < (t190.length : Int) := of_decide_eq_true (by first | (with_reducible assumption) | assumption); obtain ⟨ad193, e193, hx193_0⟩ := Kd.at_int (Kd.R_reads' HO192.out).2.2 7 p193 q193; cases e193; (try simp only [show (7 : Int).toNat = 7 from rfl, Nat.reduceMul, Nat.reduceEqDiff, Go.Addr.add, ↓reduceIte] at hx193_0); have qi193 : (7 < t190.length) = True := eq_true (by omega); (try rw [show ((7 : Int)).toNat = 7 from rfl] at hx193_0); replace p193 := eq_true p193; replace q193 := eq_true q193; have p7 : 0 ≤ (7 : Int) := (by omega); have q7 : (7 : Int) < ((t190.length : Int) : Int) := of_decide_eq_true (by first | (with_reducible assumption) | assumption); have qi7 : (7 < t190.length) = True := eq_true (by omega); obtain ⟨go7, co7, eo7, gb7, gl7, cl7, HG7⟩ := Kd.R_form HO192.out (by omega); (first | cases eo7 | (injection eo7 with ea_ en_ ec_; (first | subst ea_ | (injection ea_ with ea_; subst ea_)); subst ec_; clear en_)); have GB7 := Aside0.mk gb7; have GG7 := Aside0.mk HG7; clear gb7 gl7 HG7; (first | simp only [add_plain] at hx193_0 | skip); obtain ⟨hx7_0, hf7_0⟩ := Kd.R_celln 0 HO192.out (7 : Int) p7 q7; (try rw [show ((7 : Int)).toNat = 7 from rfl] at hx7_0); (try simp only [Nat.reduceMul, Nat.zero_mul, Nat.zero_add, Nat.reduceAdd] at hx7_0); (try rw [show ((7 : Int)).toNat = 7 from rfl] at hf7_0); (try simp only [Nat.reduceMul, Nat.zero_mul, Nat.zero_add, Nat.reduceAdd] at hf7_0); replace p7 := eq_true p7; replace q7 := eq_true q7; obtain ⟨hy14_, hz14_⟩ := Kd.R_celln 0 HO192.out (7 : Int) (by omega) (of_decide_eq_true (by first | (with_reducible assumption) | assumption)); (try simp only [Int.reduceToNat, Int.toNat_zero, Int.toNat_ofNat, Nat.reduceMul, Nat.zero_mul, Nat.zero_add] at hy14_ hz14_); (try rw [show ((7 : Int)).toNat = 7 from rfl] at hy14_); (try rw [show ((7 : Int)).toNat = 7 from rfl] at hz14_); have HP14 := Kd.R_putg HO192.out (7 : Int) (Go.bits .and .u8 (rd t190 7) 224)) | ((with_reducible refine gate_store (t := 5) (p := 29) rfl ?_); (try (rw [drewN_self w12]; generalize hq_ : World.drewN w12 _ = w12; have n0_ := Aside0.mk (Kd.R_at hq_ HO192.out); have n1_ := Aside0.mk (below_at hq_ HB.out); clear hq_ HO192 HB; have HO192 := n0_; have HB := n1_; clear n0_ n1_; (try (obtain ⟨hy14_, hz14_⟩ := Kd.R_celln 0 HO192.out (7 : Int) (by omega) (of_decide_eq_true (by first | (with_reducible assumption) | assumption)))); (try (try simp only [Int.reduceToNat, Int.toNat_zero, Int.toNat_ofNat, Nat.reduceMul, Nat.zero_mul, Nat.zero_add] at hy14_ hz14_)); (try (try rw [show ((7 : Int)).toNat = 7 from rfl] at hy14_)); (try (try rw [show ((7 : Int)).toNat = 7 from rfl] at hz14_)); (try (have HP14 := Kd.R_putg HO192.out (7 : Int) (Go.bits .and .u8 (rd t190 7) 224))))); refine store_event (t := 5) (p := 29) (v := ?vo_w15) (w1 := (w12.setCell ⟨go7, (7 : Int).toNat, none⟩ (.int .u8 (Go.bits .and .u8 (rd t190 7) 224)))) ?hg ?ho ?hn ?hr ?_; (case ho => rfl); (case hg => rfl); (case hn => rfl); (case hr => first | (go_simp; done) | (go_simp; rfl)); intro w15 hw; have hg : w12.grownBy w15 (some go7) := (by rw [hw]; exact HP14.2); have hp_ : Kd.R (Kd.int .u8) 5 w15 w.heap.size (fun _ => True) (.slice (some ⟨go7, 0, none⟩) t190.length co13) y194 := (by rw [hw, Ny194.out]; exact HP14.1); clear HP14; have n0_ := Aside0.mk (hp_); have n1_ := Aside0.mk ((by rw [hw]; exact below_set (HB.out) GB7.out : Below w.heap.size w w15)); clear HO192; clear HB; have HO192 := n0_; have HB := n1_; clear n0_ n1_; clear hg hw hp_; have p9 : 0 ≤ (8 : Int) := (by omega); have q9 : (8 : Int) < ((t190.length : Int) : Int) := of_decide_eq_true (by first | (with_reducible assumption) | assumption); have qi9 : (8 < t190.length) = True := eq_true (by omega); obtain ⟨hx9_0, hf9_0⟩ := Kd.R_celln 0 HO192.out (8 : Int) p9 q9; (try rw [show ((8 : Int)).toNat = 8 from rfl] at hx9_0); (try simp only [Nat.reduceMul, Nat.zero_mul, Nat.zero_add, Nat.reduceAdd] at hx9_0); (try rw [show ((8 : Int)).toNat = 8 from rfl] at hf9_0); (try simp only [Nat.reduceMul, Nat.zero_mul, Nat.zero_add, Nat.reduceAdd] at hf9_0); replace p9 := eq_true p9; replace q9 := eq_true q9; obtain ⟨hy16_, hz16_⟩ := Kd.R_celln 0 HO192.out (8 : Int) (by omega) (of_decide_eq_true (by first | (with_reducible assumption) | assumption)); (try simp only [Int.reduceToNat, Int.toNat_zero, Int.toNat_ofNat, Nat.reduceMul, Nat.zero_mul, Nat.zero_add] at hy16_ hz16_); (try rw [show ((8 : Int)).toNat = 8 from rfl] at hy16_); (try rw [show ((8 : Int)).toNat = 8 from rfl] at hz16_); have HP16 := Kd.R_putg HO192.out (8 : Int) 0) | ((with_reducible refine gate_store (t := 5) (p := 31) rfl ?_); (try (rw [drewN_self w15]; generalize hq_ : World.drewN w15 _ = w15; have n0_ := Aside0.mk (Kd.R_at hq_ HO192.out); have n1_ := Aside0.mk (below_at hq_ HB.out); clear hq_ HO192 HB; have HO192 := n0_; have HB := n1_; clear n0_ n1_; (try (obtain ⟨hy16_, hz16_⟩ := Kd.R_celln 0 HO192.out (8 : Int) (by omega) (of_decide_eq_true (by first | (with_reducible assumption) | assumption)))); (try (try simp only [Int.reduceToNat, Int.toNat_zero, Int.toNat_ofNat, Nat.reduceMul, Nat.zero_mul, Nat.zero_add] at hy16_ hz16_)); (try (try rw [show ((8 : Int)).toNat = 8 from rfl] at hy16_)); (try (try rw [show ((8 : Int)).toNat = 8 from rfl] at hz16_)); (try (have HP16 := Kd.R_putg HO192.out (8 : Int) 0)))); refine store_event (t := 5) (p := 31) (v := ?vo_w17) (w1 := (w15.setCell ⟨go7, (8 : Int).toNat, none⟩ (.int .u8 0))) ?hg ?ho ?hn ?hr ?_; (case ho => rfl); (case hg => rfl); (case hn => rfl); (case hr => first | (go_simp; done) | (go_simp; rfl)); intro w17 hw; have hg : w15.grownBy w17 (some go7) := (by rw [hw]; exact HP16.2); have hp_ : Kd.R (Kd.int .u8) 5 w17 w.heap.size (fun _ => True) (.slice (some ⟨go7, 0, none⟩) t190.length co13) y195 := (by rw [hw, Ny195.out]; exact HP16.1); clear HP16; have n0_ := Aside0.mk (hp_); have n1_ := Aside0.mk ((by rw [hw]; exact below_set (HB.out) GB7.out : Below w.heap.size w w17)); clear HO192; clear HB; have HO192 := n0_; have HB := n1_; clear n0_ n1_; clear hg hw hp_; have p11 : 0 ≤ (9 : Int) := (by omega); have q11 : (9 : Int) < ((t190.length : Int) : Int) := of_decide_eq_true (by first | (with_reducible assumption) | assumption); have qi11 : (9 < t190.length) = True := eq_true (by omega); obtain ⟨hx11_0, hf11_0⟩ := Kd.R_celln 0 HO192.out (9 : Int) p11 q11; (try rw [show ((9 : Int)).toNat = 9 from rfl] at hx11_0); (try simp only [Nat.reduceMul, Nat.zero_mul, Nat.zero_add, Nat.reduceAdd] at hx11_0); (try rw [show ((9 : Int)).toNat = 9 from rfl] at hf11_0); (try simp only [Nat.reduceMul, Nat.zero_mul, Nat.zero_add, Nat.reduceAdd] at hf11_0); replace p11 := eq_true p11; replace q11 := eq_true q11; obtain ⟨hy18_, hz18_⟩ := Kd.R_celln 0 HO192.out (9 : Int) (by omega) (of_decide_eq_true (by first | (with_reducible assumption) | assumption)); (try simp only [Int.reduceToNat, Int.toNat_zero, Int.toNat_ofNat, Nat.reduceMul, Nat.zero_mul, Nat.zero_add] at hy18_ hz18_); (try rw [show ((9 : Int)).toNat = 9 from rfl] at hy18_); (try rw [show ((9 : Int)).toNat = 9 from rfl] at hz18_); have HP18 := Kd.R_putg HO192.out (9 : Int) 0) | ((with_reducible refine gate_store (t := 5) (p := 33) rfl ?_); (try (rw [drewN_self w17]; generalize hq_ : World.drewN w17 _ = w17; have n0_ := Aside0.mk (Kd.R_at hq_ HO192.out); have n1_ := Aside0.mk (below_at hq_ HB.out); clear hq_ HO192 HB; have HO192 := n0_; have HB := n1_; clear n0_ n1_; (try (obtain ⟨hy18_, hz18_⟩ := Kd.R_celln 0 HO192.out (9 : Int) (by omega) (of_decide_eq_true (by first | (with_reducible assumption) | assumption)))); (try (try simp only [Int.reduceToNat, Int.toNat_zero, Int.toNat_ofNat, Nat.reduceMul, Nat.zero_mul, Nat.zero_add] at hy18_ hz18_)); (try (try rw [show ((9 : Int)).toNat = 9 from rfl] at hy18_)); (try (try rw [show ((9 : Int)).toNat = 9 from rfl] at hz18_)); (try (have HP18 := Kd.R_putg HO192.out (9 : Int) 0)))); refine store_event (t := 5) (p := 33) (v := ?vo_w19) (w1 := (w17.setCell ⟨go7, (9 : Int).toNat, none⟩ (.int .u8 0))) ?hg ?ho ?hn ?hr ?_; (case ho => rfl); (case hg => rfl); (case hn => rfl); (case hr => first | (go_simp; done) | (go_simp; rfl)); intro w19 hw; have hg : w17.grownBy w19 (some go7) := (by rw [hw]; exact HP18.2); have hp_ : Kd.R (Kd.int .u8) 5 w19 w.heap.size (fun _ => True) (.slice (some ⟨go7, 0, none⟩) t190.length co13) y196 := (by rw [hw, Ny196.out]; exact HP18.1); clear HP18; have n0_ := Aside0.mk (hp_); have n1_ := Aside0.mk ((by rw [hw]; exact below_set (HB.out) GB7.out : Below w.heap.size w w19)); clear HO192; clear HB; have HO192 := n0_; have HB := n1_; clear n0_ n1_; clear hg hw hp_)))
              go_ret2
              exact ⟨_, by first | rfl | (simp [errW_none, errW_some] <;> rfl) | (simp [*, errW_none, errW_some] <;> rfl), by (with_reducible repeat (first | apply Kd.R_alloc | apply Kd.R_drewN | apply Kd.R_drew)); exact HO192.out, by repeat (first | (with_reducible first | exact HB.out | apply below_alloc | apply pw_below_drewN | apply below_drew1) | exact HB.out)⟩
            · rw [if_neg c10] at H
              exact absurd H (by simp)
          · rw [if_neg c8] at H
            exact absurd H (by simp)
        · rw [if_neg c6] at H
          exact absurd H (by simp)
      · rw [if_neg c4] at H
        exact absurd H (by simp)
    · rw [if_neg c3] at H
      exact absurd H (by simp)
  · rw [if_neg c2] at H
    exact absurd H (by simp)

def spec_l1Unbits.l0 : Nat → List Int → List Int → Int → Int → Option (List Int)
  | 0, _, _, _, _ => none
  | k + 1, x3, x10, x11, x12 => if x12 < x11 then (if 0 ≤ x12 then (if x12 < (x10.length : Int) then (if 0 ≤ (wrap64 (Int.tdiv x12 8)) then (if (wrap64 (Int.tdiv x12 8)) < (x3.length : Int) then (spec_l1Unbits.l0 k (x3.set ((wrap64 (Int.tdiv x12 8)) : Int).toNat (Go.bits .or .u8 (((rd x3 (wrap64 (Int.tdiv x12 8))) * 2) % 256) (rd x10 x12))) x10 x11 (wrap64 (x12 + 1))) else (none)) else (none)) else (none)) else (none)) else (some x3)
def spec_l1Unbits.f (k : Nat) (l0 : List Int) : Option (List Int) := if 0 ≤ (wrap64 ((l0.length : Int) / 8)) then (if (wrap64 ((l0.length : Int) / 8) : Int).toNat ≤ 281474976710656 then (spec_l1Unbits.l0 k (List.replicate (wrap64 ((l0.length : Int) / 8) : Int).toNat 0) l0 (l0.length : Int) 0) else (none)) else (none)
set_option maxHeartbeats 8000000 in
set_option maxRecDepth 100000 in
theorem spec_l1Unbits.calls (k : Nat) (A0 : Option Addr) (c0 : Nat) (l0 : List Int) (r : List Int) (w : World) (hr0 : Kd.C (Kd.int .u8) w A0 l0.length l0) (hc0 : l0.length ≤ c0) (h : spec_l1Unbits.f k l0 = some r) :
    Calls Try.prog 60 #[.slice A0 l0.length c0] w fun e w' => ∃ v0_ : Value, e = .returned (v0_) ∧ Kd.R (Kd.int .u8) 5 w' w.heap.size (fun _ => True) v0_ r ∧ Below w.heap.size w w' := by
  have HR0 := Aside0.mk hr0
  have HC0 := Aside0.mk hc0
  clear hr0 hc0
  have HB := Aside0.mk (Below.refl w.heap.size w)
  have H : (if 0 ≤ (wrap64 ((l0.length : Int) / 8)) then (if (wrap64 ((l0.length : Int) / 8) : Int).toNat ≤ 281474976710656 then (spec_l1Unbits.l0 k (List.replicate (wrap64 ((l0.length : Int) / 8) : Int).toNat 0) l0 (l0.length : Int) 0) else (none)) else (none)) = some r := h
  clear h
  obtain ⟨ji2, hji2⟩ : ∃ j_ : Int, (wrap64 ((l0.length : Int) / 8)) = j_ := ⟨_, rfl⟩
  replace H : (if 0 ≤ (ji2) then (if (ji2 : Int).toNat ≤ 281474976710656 then (spec_l1Unbits.l0 k (List.replicate (ji2 : Int).toNat 0) l0 (l0.length : Int) 0) else (none)) else (none)) = some r := by first | (rw [hji2] at H; exact H) | (simp only [hji2] at H ⊢; exact H)
  have hji2w : (IntKind.i64.wrap ((l0.length : Int) / 8)) = ji2 := (i64_w _).trans hji2
  by_cases c3 : 0 ≤ (ji2)
  · rw [if_pos c3] at H
    have c3b0 := eq_true c3
    have c3b1 : decide (0 ≤ (ji2)) = true := decide_eq_true c3
    clear c3
    by_cases c4 : (ji2 : Int).toNat ≤ 281474976710656
    · rw [if_pos c4] at H
      have c4b0 := eq_true c4
      have c4b1 : decide ((ji2 : Int).toNat ≤ 281474976710656) = true := decide_eq_true c4
      clear c4
      obtain ⟨y197, hy197⟩ : ∃ y_ : List Int, y_ = (List.replicate (ji2 : Int).toNat 0) := ⟨_, rfl⟩
      replace H : (spec_l1Unbits.l0 k y197 l0 (l0.length : Int) 0) = some r := by first | (rw [hy197]; with_reducible exact H) | (have H2_ := (Option.bind_some _ _).symm.trans H; rw [hy197]; with_reducible exact H2_) | (have H2_ := (Option.bind_some _ _).symm.trans H; with_reducible exact H2_) | with_reducible exact H | (rw [hy197]; exact H) | exact H
      have Ny197 := Aside0.mk hy197
      clear hy197
      have H' := Aside0.mk H
      clear H
      go_enter Try.func60, Try.ntmps60
      go_wp2_with (first | ((with_reducible refine gate_dst (N := 9) rfl ?_); refine Kd.R_make (Kd.int .u8) _ 5 rfl (N := 9) rfl 29 _ _ rfl ji2 rfl rfl Try.underlying29 (.int .u8 0) 1 info5 rfl (by decide) (by omega) 0 (ok := fun _ => True) (okp := fun _ => True) rfl (fun _ hk => hk) trivial (of_decide_eq_true (by first | (with_reducible assumption) | assumption)) (Nat.le_trans (Nat.mul_le_mul_right _ (of_decide_eq_true (by first | (with_reducible assumption) | assumption) : ji2.toNat ≤ 281474976710656)) (by omega)) (Below.refl _ _) (Nat.le_refl _) ?_; intro v198 w5 ho6 hb hg_ hnew_; clear hg_ hnew_; (first | rw [← Ny197.out] at ho6 | (simp only [Int.reduceToNat] at ho6; rw [← Ny197.out] at ho6)); have n0_ := Aside0.mk (Kd.R_lower ho6 (below_size (by repeat (first | (with_reducible first | exact HB.out | apply below_alloc | apply pw_below_drewN | apply below_drew1) | exact HB.out)))); have n1_ := Aside0.mk (below_step (by repeat (first | (with_reducible first | exact HB.out | apply below_alloc | apply pw_below_drewN | apply below_drew1) | exact HB.out)) hb); clear HB; have HO199 := n0_; have HB := n1_; clear n0_ n1_; clear hb ho6))
      go_loopg [12] k (fun kq v12 w' => ∃ (x3_1 : List Int) (x12_1 : Int), v12 = .int .i64 x12_1 ∧ Aside0 (spec_l1Unbits.l0 kq x3_1 l0 (l0.length : Int) x12_1 = some r) ∧ Aside0 (kq ≤ k) ∧ Aside0 (Kd.R (Kd.int .u8) 5 w' w.heap.size (fun _ => True) v198 x3_1) ∧ Aside0 (Below w.heap.size w w'))
      case atStart => exact ⟨(y197), (0), (by first | rfl | (simp; done) | (simp [*]; done)), H', ⟨Nat.le_refl _⟩, ⟨by (with_reducible repeat (first | apply Kd.R_alloc | apply Kd.R_drewN | apply Kd.R_drew)); exact HO199.out⟩, ⟨by repeat (first | (with_reducible first | exact HB.out | apply below_alloc | apply pw_below_drewN | apply below_drew1) | exact HB.out)⟩⟩
      case round =>
        clear H'
        try clear p2
        try clear c3
        try clear c3b0
        try clear c3b1
        try clear c4
        try clear c4b0
        try clear c4b1
        try clear c6
        try clear p6
        obtain ⟨x3_1, x12_1, rfl, HA, HK1, HO_3, HB⟩ := hrel
        cases gk with
        | zero => exact absurd HA.out (by simp [spec_l1Unbits.l0])
        | succ k1 =>
          have H := HA.out
          clear HA
          simp only [spec_l1Unbits.l0] at H
          by_cases c7 : x12_1 < (l0.length : Int)
          · rw [if_pos c7] at H
            have c7b0 : decide (x12_1 < (l0.length : Int)) = true := decide_eq_true c7
            clear c7
            by_cases c8 : 0 ≤ x12_1
            · rw [if_pos c8] at H
              have c8b0 : decide (0 ≤ x12_1) = true := decide_eq_true c8
              clear c8
              by_cases c9 : x12_1 < (l0.length : Int)
              · rw [if_pos c9] at H
                have c9b0 : decide (x12_1 < (l0.length : Int)) = true := decide_eq_true c9
                clear c9
                obtain ⟨ji10, hji10⟩ : ∃ j_ : Int, (wrap64 (Int.tdiv x12_1 8)) = j_ := ⟨_, rfl⟩
                replace H : (if 0 ≤ (ji10) then (if (ji10) < (x3_1.length : Int) then (spec_l1Unbits.l0 k1 (x3_1.set ((ji10) : Int).toNat (Go.bits .or .u8 (((rd x3_1 (ji10)) * 2) % 256) (rd l0 x12_1))) l0 (l0.length : Int) (wrap64 (x12_1 + 1))) else (none)) else (none)) = some r := by first | (rw [hji10] at H; exact H) | (simp only [hji10] at H ⊢; exact H)
                have hji10w : (IntKind.i64.wrap (Int.tdiv x12_1 8)) = ji10 := (i64_w _).trans hji10
                by_cases c11 : 0 ≤ (ji10)
                · rw [if_pos c11] at H
                  have c11b0 : decide (0 ≤ (ji10)) = true := decide_eq_true c11
                  clear c11
                  by_cases c12 : (ji10) < (x3_1.length : Int)
                  · rw [if_pos c12] at H
                    have c12b0 : decide ((ji10) < (x3_1.length : Int)) = true := decide_eq_true c12
                    clear c12
                    obtain ⟨y202, hy202⟩ : ∃ y_ : List Int, y_ = (x3_1.set ((ji10) : Int).toNat (Go.bits .or .u8 (((rd x3_1 (ji10)) * 2) % 256) (rd l0 x12_1))) := ⟨_, rfl⟩
                    replace H : (spec_l1Unbits.l0 k1 y202 l0 (l0.length : Int) (wrap64 (x12_1 + 1))) = some r := by first | (rw [hy202]; with_reducible exact H) | (have H2_ := (Option.bind_some _ _).symm.trans H; rw [hy202]; with_reducible exact H2_) | (have H2_ := (Option.bind_some _ _).symm.trans H; with_reducible exact H2_) | with_reducible exact H | (rw [hy202]; exact H) | exact H
                    have Ny202 := Aside0.mk hy202
                    clear hy202
                    have H' := Aside0.mk H
                    clear H
                    have p200 : 0 ≤ (x12_1 : Int) := of_decide_eq_true (by first | (with_reducible assumption) | assumption)
                    have q200 : x12_1 < (l0.length : Int) := of_decide_eq_true (by first | (with_reducible assumption) | assumption)
                    obtain ⟨ad200, e200, hx200_0⟩ := Kd.at_int HR0.out x12_1 p200 q200
                    cases e200
                    replace hx200_0 := (HB.out.cell (World.block_lt_of_cell? w _ hx200_0)).trans hx200_0
                    replace p200 := eq_true p200
                    replace q200 := eq_true q200
                    obtain ⟨Ao14, co14, eo14⟩ := Kd.R_slice HO_3.out
                    subst eo14
                    have p201 : 0 ≤ ((ji10) : Int) := of_decide_eq_true (by first | (with_reducible assumption) | assumption)
                    have q201 : (ji10) < (x3_1.length : Int) := of_decide_eq_true (by first | (with_reducible assumption) | assumption)
                    obtain ⟨ad201, e201, hx201_0⟩ := Kd.at_int (Kd.R_reads' HO_3.out).2.2 (ji10) p201 q201
                    cases e201
                    replace p201 := eq_true p201
                    replace q201 := eq_true q201
                    have p13 : 0 ≤ ((ji10) : Int) := of_decide_eq_true (by first | (with_reducible assumption) | assumption)
                    have q13 : ((ji10) : Int) < ((x3_1.length : Int) : Int) := of_decide_eq_true (by first | (with_reducible assumption) | assumption)
                    obtain ⟨go13, co13, eo13, gb13, gl13, cl13, HG13⟩ := Kd.R_form HO_3.out (by omega)
                    (first | cases eo13 | (injection eo13 with ea_ en_ ec_; (first | subst ea_ | (injection ea_ with ea_; subst ea_)); subst ec_; clear en_))
                    have GB13 := Aside0.mk gb13
                    have GG13 := Aside0.mk HG13
                    clear gb13 gl13 HG13
                    (first | simp only [add_plain] at hx201_0 | skip)
                    obtain ⟨hx13_0, hf13_0⟩ := Kd.R_celln 0 HO_3.out ((ji10) : Int) p13 q13
                    replace p13 := eq_true p13
                    replace q13 := eq_true q13
                    have HP15 := Kd.R_putg HO_3.out ((ji10) : Int) (Go.bits .or .u8 (((rd x3_1 (ji10)) * 2) % 256) (rd l0 x12_1))
                    go_wp2_with (first | ((with_reducible refine gate_store (t := 5) (p := 28) rfl ?_); refine store_event (t := 5) (p := 28) (v := ?vo_w16) (w1 := (wr.setCell ⟨go13, ((ji10) : Int).toNat, none⟩ (.int .u8 (Go.bits .or .u8 (((rd x3_1 (ji10)) * 2) % 256) (rd l0 x12_1))))) ?hg ?ho ?hn ?hr ?_; (case ho => rfl); (case hg => rfl); (case hn => rfl); (case hr => first | (go_simp; done) | (go_simp; rfl)); intro w16 hw; have hg : wr.grownBy w16 (some go13) := (by rw [hw]; exact HP15.2); have hp_ : Kd.R (Kd.int .u8) 5 w16 w.heap.size (fun _ => True) (.slice (some ⟨go13, 0, none⟩) x3_1.length co14) y202 := (by rw [hw, Ny202.out]; exact HP15.1); clear HP15; have n0_ := Aside0.mk (hp_); have n1_ := Aside0.mk ((by rw [hw]; exact below_set (HB.out) GB13.out : Below w.heap.size w w16)); clear HO_3; clear HB; have HO_3 := n0_; have HB := n1_; clear n0_ n1_; clear hg hw hp_))
                    go_roundg k1
                    case measure => have := HK1.out; omega
                    case rel => exact ⟨(y202), (wrap64 (x12_1 + 1)), (by first | rfl | (simp; done) | (simp [*]; done)), H', ⟨by have := HK1.out; omega⟩, ⟨by (with_reducible repeat (first | apply Kd.R_alloc | apply Kd.R_drewN | apply Kd.R_drew)); exact HO_3.out⟩, ⟨by repeat (first | (with_reducible first | exact HB.out | apply below_alloc | apply pw_below_drewN | apply below_drew1) | exact HB.out)⟩⟩
                  · rw [if_neg c12] at H
                    exact absurd H (by simp)
                · rw [if_neg c11] at H
                  exact absurd H (by simp)
              · rw [if_neg c9] at H
                exact absurd H (by simp)
            · rw [if_neg c8] at H
              exact absurd H (by simp)
          · rw [if_neg c7] at H
            have c7b0 : decide (x12_1 < (l0.length : Int)) = false := decide_eq_false c7
            clear c7
            obtain rfl := Option.some.inj H
            go_wp2
            go_ret
            exact ⟨_, by first | rfl | (simp [errW_none, errW_some] <;> rfl) | (simp only [← hji2]; first | rfl | (simp [errW_none, errW_some] <;> rfl)) | (simp [*, errW_none, errW_some] <;> rfl), by (with_reducible repeat (first | apply Kd.R_alloc | apply Kd.R_drewN | apply Kd.R_drew)); exact HO_3.out, by repeat (first | (with_reducible first | exact HB.out | apply below_alloc | apply pw_below_drewN | apply below_drew1) | exact HB.out)⟩
    · rw [if_neg c4] at H
      exact absurd H (by simp)
  · rw [if_neg c3] at H
    exact absurd H (by simp)

mutual
def spec_l1Bits.l0 : Nat → List Int → List Int → Int → Int → Option (List Int)
  | 0, _, _, _, _ => none
  | k + 1, x3, x7, x8, x9 => if x9 < x8 then (if 0 ≤ x9 then (if x9 < (x7.length : Int) then (spec_l1Bits.l1 k x3 (rd x7 x9) 7 x7 x8 x9) else (none)) else (none)) else (some x3)
def spec_l1Bits.l1 : Nat → List Int → Int → Int → List Int → Int → Int → Option (List Int)
  | 0, _, _, _, _, _, _ => none
  | k + 1, x3, x5, x6, x7, x8, x9 => if x6 ≥ 0 then (if 0 ≤ (IntKind.u64.wrap (x6)) then (if x3.length < 140737488355328 then (spec_l1Bits.l1 k (x3 ++ [Go.bits .and .u8 (shr .u8 x5 (IntKind.u64.wrap (x6))) 1]) x5 (wrap64 (x6 - 1)) x7 x8 x9) else (none)) else (none)) else (spec_l1Bits.l0 k x3 x7 x8 (wrap64 (x9 + 1)))
end
def spec_l1Bits.f (k : Nat) (l0 : List Int) : Option (List Int) := spec_l1Bits.l0 k ([] : List Int) l0 (l0.length : Int) 0
set_option maxHeartbeats 8000000 in
set_option maxRecDepth 100000 in
theorem spec_l1Bits.calls (k : Nat) (A0 : Option Addr) (c0 : Nat) (l0 : List Int) (r : List Int) (w : World) (hr0 : Kd.C (Kd.int .u8) w A0 l0.length l0) (hc0 : l0.length ≤ c0) (h : spec_l1Bits.f k l0 = some r) :
    Calls Try.prog 96 #[.slice A0 l0.length c0] w fun e w' => ∃ v0_ : Value, e = .returned (v0_) ∧ Kd.R (Kd.int .u8) 5 w' w.heap.size (fun _ => True) v0_ r ∧ Below w.heap.size w w' := by
  have HR0 := Aside0.mk hr0
  have HC0 := Aside0.mk hc0
  clear hr0 hc0
  have HB := Aside0.mk (Below.refl w.heap.size w)
  have H : (spec_l1Bits.l0 k ([] : List Int) l0 (l0.length : Int) 0) = some r := h
  clear h
  have H' := Aside0.mk H
  clear H
  go_enter Try.func96, Try.ntmps96
  go_wp2
  go_loopg [3, 9] k (fun kq v3 v9 w' => ∃ (x3_1 : List Int) (x9_1 : Int), v9 = .int .i64 x9_1 ∧ Aside0 (spec_l1Bits.l0 kq x3_1 l0 (l0.length : Int) x9_1 = some r) ∧ Aside0 (kq ≤ k) ∧ Aside0 (Kd.R (Kd.int .u8) 5 w' w.heap.size (fun _ => True) v3 x3_1) ∧ Aside0 (Below w.heap.size w w'))
  case atStart => exact ⟨(([] : List Int)), (0), (by first | rfl | (simp; done) | (simp [*]; done)), H', ⟨Nat.le_refl _⟩, ⟨by first | exact Kd.R_nil _ _ _ _ _ | exact Kd.N_nil _ _ _ _ _ | exact Kd.V_nil _ _ _ _ _ | exact Kd.Q_nil _ _ _ _ _ | exact Kd.S_nil _ _ _ _ _⟩, ⟨by repeat (first | (with_reducible first | exact HB.out | apply below_alloc | apply pw_below_drewN | apply below_drew1) | exact HB.out)⟩⟩
  case round =>
    clear H'
    obtain ⟨x3_1, x9_1, rfl, HA, HK1, HO_3, HB⟩ := hrel
    cases gk with
    | zero => exact absurd HA.out (by simp [spec_l1Bits.l0])
    | succ k1 =>
      have H := HA.out
      clear HA
      simp only [spec_l1Bits.l0] at H
      by_cases c2 : x9_1 < (l0.length : Int)
      · rw [if_pos c2] at H
        have c2b0 : decide (x9_1 < (l0.length : Int)) = true := decide_eq_true c2
        clear c2
        by_cases c3 : 0 ≤ x9_1
        · rw [if_pos c3] at H
          have c3b0 : decide (0 ≤ x9_1) = true := decide_eq_true c3
          clear c3
          by_cases c4 : x9_1 < (l0.length : Int)
          · rw [if_pos c4] at H
            have c4b0 : decide (x9_1 < (l0.length : Int)) = true := decide_eq_true c4
            clear c4
            have H' := Aside0.mk H
            clear H
            have p203 : 0 ≤ (x9_1 : Int) := of_decide_eq_true (by first | (with_reducible assumption) | assumption)
            have q203 : x9_1 < (l0.length : Int) := of_decide_eq_true (by first | (with_reducible assumption) | assumption)
            obtain ⟨ad203, e203, hx203_0⟩ := Kd.at_int HR0.out x9_1 p203 q203
            cases e203
            replace hx203_0 := (HB.out.cell (World.block_lt_of_cell? w _ hx203_0)).trans hx203_0
            replace p203 := eq_true p203
            replace q203 := eq_true q203
            go_wp2
            go_loopg [3, 6] k1 (fun kq v3 v6 w' => ∃ (x3_2 : List Int) (x6_2 : Int), v6 = .int .i64 x6_2 ∧ Aside0 (spec_l1Bits.l1 kq x3_2 (rd l0 x9_1) x6_2 l0 (l0.length : Int) x9_1 = some r) ∧ Aside0 (kq ≤ k1) ∧ Aside0 (Kd.R (Kd.int .u8) 5 w' w.heap.size (fun _ => True) v3 x3_2) ∧ Aside0 (Below w.heap.size w w'))
            case atStart => exact ⟨(x3_1), (7), (by first | rfl | (simp; done) | (simp [*]; done)), H', ⟨Nat.le_refl _⟩, ⟨by (with_reducible repeat (first | apply Kd.R_alloc | apply Kd.R_drewN | apply Kd.R_drew)); exact HO_3.out⟩, ⟨by repeat (first | (with_reducible first | exact HB.out | apply below_alloc | apply pw_below_drewN | apply below_drew1) | exact HB.out)⟩⟩
            case round =>
              clear H'
              try clear c2
              try clear c2b0
              try clear p2
              try clear q2
              try clear hx2
              try clear c3
              try clear c3b0
              try clear c4
              try clear c4b0
              try clear hx203_0
              try clear p203
              try clear q203
              obtain ⟨x3_2, x6_2, rfl, HA, HK2, HO_3, HB⟩ := hrel
              cases gk with
              | zero => exact absurd HA.out (by simp [spec_l1Bits.l1])
              | succ k2 =>
                have H := HA.out
                clear HA
                simp only [spec_l1Bits.l1] at H
                by_cases c5 : x6_2 ≥ 0
                · rw [if_pos c5] at H
                  have c5b0 : decide (0 ≤ x6_2) = true := decide_eq_true c5
                  clear c5
                  obtain ⟨ji6, hji6⟩ : ∃ j_ : Int, (IntKind.u64.wrap (x6_2)) = j_ := ⟨_, rfl⟩
                  replace H : (if 0 ≤ (ji6) then (if x3_2.length < 140737488355328 then (spec_l1Bits.l1 k2 (x3_2 ++ [Go.bits .and .u8 (shr .u8 (rd l0 x9_1) (ji6)) 1]) (rd l0 x9_1) (wrap64 (x6_2 - 1)) l0 (l0.length : Int) x9_1) else (none)) else (none)) = some r := by first | (rw [hji6] at H; exact H) | (simp only [hji6] at H ⊢; exact H)
                  by_cases c7 : 0 ≤ (ji6)
                  · rw [if_pos c7] at H
                    have c7b0 := eq_true c7
                    have c7b1 : decide (0 ≤ (ji6)) = true := decide_eq_true c7
                    clear c7
                    obtain ⟨ji8, hji8⟩ : ∃ j_ : Int, (shr .u8 (rd l0 x9_1) (ji6)) = j_ := ⟨_, rfl⟩
                    replace H : (if x3_2.length < 140737488355328 then (spec_l1Bits.l1 k2 (x3_2 ++ [Go.bits .and .u8 (ji8) 1]) (rd l0 x9_1) (wrap64 (x6_2 - 1)) l0 (l0.length : Int) x9_1) else (none)) = some r := by first | (rw [hji8] at H; exact H) | (simp only [hji8] at H ⊢; exact H)
                    have hji8_ : ((rd l0 x9_1) / 2 ^ min (ji6).toNat 8) = ji8 := hji8
                    have hji8z : (ji6) ≤ 8 → ((rd l0 x9_1) / 2 ^ (ji6).toNat) = ji8 := shr_small hji8
                    by_cases c9 : x3_2.length < 140737488355328
                    · rw [if_pos c9] at H
                      have LMc9 := Aside0.mk c9
                      clear c9
                      obtain ⟨y204, hy204⟩ : ∃ y_ : List Int, y_ = (x3_2 ++ [Go.bits .and .u8 (ji8) 1]) := ⟨_, rfl⟩
                      replace H : (spec_l1Bits.l1 k2 y204 (rd l0 x9_1) (wrap64 (x6_2 - 1)) l0 (l0.length : Int) x9_1) = some r := by first | (rw [hy204]; with_reducible exact H) | (have H2_ := (Option.bind_some _ _).symm.trans H; rw [hy204]; with_reducible exact H2_) | (have H2_ := (Option.bind_some _ _).symm.trans H; with_reducible exact H2_) | with_reducible exact H | (rw [hy204]; exact H) | exact H
                      have Ny204 := Aside0.mk hy204
                      clear hy204
                      have H' := Aside0.mk H
                      clear H
                      go_wp2_with (first | ((with_reducible refine gate_builtin (b := .append) (xs := #[.tmp 17, .tmp 23]) rfl ?_); at_builtin; refine Kd.R_append (Kd.int .u8) (w0 := w) w.heap.size rfl (.tmp 17) (.tmp 23) 29 5 (.int .u8 0) 1 rfl Try.underlying29 info5 rfl (by decide) (by omega) u3 x3_2 (Go.bits .and .u8 (ji8) 1) [.int .u8 (Go.bits .and .u8 (ji8) 1)] (fun _ => True) (fun _ => False) rfl rfl ?aP (fun _ hk => hk.elim) ?aF ?aO ?aB ?aS ?aL ?_; (case aP => exact rfl); (case aB => exact (by repeat (first | (with_reducible first | exact HB.out | apply below_alloc | apply pw_below_drewN | apply below_drew1) | exact HB.out))); (case aF => exact (fun _ _ => trivial)); (case aO => exact (by (with_reducible repeat (first | apply Kd.R_alloc | apply Kd.R_drewN | apply Kd.R_drew)); exact HO_3.out)); (case aS => exact (below_size (by repeat (first | (with_reducible first | exact HB.out | apply below_alloc | apply pw_below_drewN | apply below_drew1) | exact HB.out)))); (case aL => have := LMc9.out; omega); intro v205 w10 ho hb hg hat; rw [← Ny204.out] at ho; have n0_ := Aside0.mk (hb); have n1_ := Aside0.mk (ho); clear HB; clear HO_3; have HB := n0_; have HO206 := n1_; clear n0_ n1_; clear ho hb hg hat))
                      go_roundg k2
                      case measure => have := HK1.out; have := HK2.out; omega
                      case rel => exact ⟨(y204), (wrap64 (x6_2 - 1)), (by first | rfl | (simp; done) | (simp [*]; done)), H', ⟨by have := HK1.out; have := HK2.out; omega⟩, ⟨by (with_reducible repeat (first | apply Kd.R_alloc | apply Kd.R_drewN | apply Kd.R_drew)); exact HO206.out⟩, ⟨by repeat (first | (with_reducible first | exact HB.out | apply below_alloc | apply pw_below_drewN | apply below_drew1) | exact HB.out)⟩⟩
                    · rw [if_neg c9] at H
                      exact absurd H (by simp)
                  · rw [if_neg c7] at H
                    exact absurd H (by simp)
                · rw [if_neg c5] at H
                  have c5b0 : decide (0 ≤ x6_2) = false := decide_eq_false c5
                  clear c5
                  have H' := Aside0.mk H
                  clear H
                  go_wp2
                  go_roundg k2
                  case measure => have := HK1.out; have := HK2.out; omega
                  case rel => exact ⟨(x3_2), (wrap64 (x9_1 + 1)), (by first | rfl | (simp; done) | (simp [*]; done)), H', ⟨by have := HK1.out; have := HK2.out; omega⟩, ⟨by (with_reducible repeat (first | apply Kd.R_alloc | apply Kd.R_drewN | apply Kd.R_drew)); exact HO_3.out⟩, ⟨by repeat (first | (with_reducible first | exact HB.out | apply below_alloc | apply pw_below_drewN | apply below_drew1) | exact HB.out)⟩⟩
          · rw [if_neg c4] at H
            exact absurd H (by simp)
        · rw [if_neg c3] at H
          exact absurd H (by simp)
      · rw [if_neg c2] at H
        have c2b0 : decide (x9_1 < (l0.length : Int)) = false := decide_eq_false c2
        clear c2
        obtain rfl := Option.some.inj H
        go_wp2
        go_ret
        exact ⟨_, by first | rfl | (simp [errW_none, errW_some] <;> rfl) | (simp [*, errW_none, errW_some] <;> rfl), by (with_reducible repeat (first | apply Kd.R_alloc | apply Kd.R_drewN | apply Kd.R_drew)); exact HO_3.out, by repeat (first | (with_reducible first | exact HB.out | apply below_alloc | apply pw_below_drewN | apply below_drew1) | exact HB.out)⟩

def spec_l1Pick.l0 : Nat → List Int → List Int → List Int → Int → Int → Option (List Int)
  | 0, _, _, _, _, _ => none
  | k + 1, x0, x5, x8, x9, x10 => if x10 < x9 then (if 0 ≤ x10 then (if x10 < (x8.length : Int) then (if 0 ≤ (wrap64 ((rd x8 x10) - 1)) then (if (wrap64 ((rd x8 x10) - 1)) < (x0.length : Int) then (if x5.length < 140737488355328 then (spec_l1Pick.l0 k x0 (x5 ++ [rd x0 (wrap64 ((rd x8 x10) - 1))]) x8 x9 (wrap64 (x10 + 1))) else (none)) else (none)) else (none)) else (none)) else (none)) else (some x5)
def spec_l1Pick.f (k : Nat) (l0 : List Int) (l1 : List Int) : Option (List Int) := spec_l1Pick.l0 k l0 ([] : List Int) l1 (l1.length : Int) 0
set_option maxHeartbeats 8000000 in
set_option maxRecDepth 100000 in
theorem spec_l1Pick.calls (k : Nat) (A0 : Option Addr) (c0 : Nat) (l0 : List Int) (A1 : Option Addr) (c1 : Nat) (l1 : List Int) (r : List Int) (w : World) (hr0 : Kd.C (Kd.int .u8) w A0 l0.length l0) (hc0 : l0.length ≤ c0) (hr1 : Kd.C (Kd.int .i64) w A1 l1.length l1) (hc1 : l1.length ≤ c1) (h : spec_l1Pick.f k l0 l1 = some r) :
    Calls Try.prog 119 #[.slice A0 l0.length c0, .slice A1 l1.length c1] w fun e w' => ∃ v0_ : Value, e = .returned (v0_) ∧ Kd.R (Kd.int .u8) 5 w' w.heap.size (fun _ => True) v0_ r ∧ Below w.heap.size w w' := by
  have HR0 := Aside0.mk hr0
  have HC0 := Aside0.mk hc0
  clear hr0 hc0
  have HR1 := Aside0.mk hr1
  have HC1 := Aside0.mk hc1
  clear hr1 hc1
  have HB := Aside0.mk (Below.refl w.heap.size w)
  have H : (spec_l1Pick.l0 k l0 ([] : List Int) l1 (l1.length : Int) 0) = some r := h
  clear h
  have H' := Aside0.mk H
  clear H
  go_enter Try.func119, Try.ntmps119
  go_wp2
  go_loopg [5, 10] k (fun kq v5 v10 w' => ∃ (x5_1 : List Int) (x10_1 : Int), v10 = .int .i64 x10_1 ∧ Aside0 (spec_l1Pick.l0 kq l0 x5_1 l1 (l1.length : Int) x10_1 = some r) ∧ Aside0 (kq ≤ k) ∧ Aside0 (Kd.R (Kd.int .u8) 5 w' w.heap.size (fun _ => True) v5 x5_1) ∧ Aside0 (Below w.heap.size w w'))
  case atStart => exact ⟨(([] : List Int)), (0), (by first | rfl | (simp; done) | (simp [*]; done)), H', ⟨Nat.le_refl _⟩, ⟨by first | exact Kd.R_nil _ _ _ _ _ | exact Kd.N_nil _ _ _ _ _ | exact Kd.V_nil _ _ _ _ _ | exact Kd.Q_nil _ _ _ _ _ | exact Kd.S_nil _ _ _ _ _⟩, ⟨by repeat (first | (with_reducible first | exact HB.out | apply below_alloc | apply pw_below_drewN | apply below_drew1) | exact HB.out)⟩⟩
  case round =>
    clear H'
    try clear c1
    try clear p2
    obtain ⟨x5_1, x10_1, rfl, HA, HK1, HO_5, HB⟩ := hrel
    cases gk with
    | zero => exact absurd HA.out (by simp [spec_l1Pick.l0])
    | succ k1 =>
      have H := HA.out
      clear HA
      simp only [spec_l1Pick.l0] at H
      by_cases c3 : x10_1 < (l1.length : Int)
      · rw [if_pos c3] at H
        have c3b0 : decide (x10_1 < (l1.length : Int)) = true := decide_eq_true c3
        clear c3
        by_cases c4 : 0 ≤ x10_1
        · rw [if_pos c4] at H
          have c4b0 : decide (0 ≤ x10_1) = true := decide_eq_true c4
          clear c4
          by_cases c5 : x10_1 < (l1.length : Int)
          · rw [if_pos c5] at H
            have c5b0 : decide (x10_1 < (l1.length : Int)) = true := decide_eq_true c5
            clear c5
            obtain ⟨ji6, hji6⟩ : ∃ j_ : Int, (wrap64 ((rd l1 x10_1) - 1)) = j_ := ⟨_, rfl⟩
            replace H : (if 0 ≤ (ji6) then (if (ji6) < (l0.length : Int) then (if x5_1.length < 140737488355328 then (spec_l1Pick.l0 k1 l0 (x5_1 ++ [rd l0 (ji6)]) l1 (l1.length : Int) (wrap64 (x10_1 + 1))) else (none)) else (none)) else (none)) = some r := by first | (rw [hji6] at H; exact H) | (simp only [hji6] at H ⊢; exact H)
            have hji6w : (IntKind.i64.wrap ((rd l1 x10_1) - 1)) = ji6 := (i64_w _).trans hji6
            by_cases c7 : 0 ≤ (ji6)
            · rw [if_pos c7] at H
              have c7b0 : decide (0 ≤ (ji6)) = true := decide_eq_true c7
              clear c7
              by_cases c8 : (ji6) < (l0.length : Int)
              · rw [if_pos c8] at H
                have c8b0 : decide ((ji6) < (l0.length : Int)) = true := decide_eq_true c8
                clear c8
                by_cases c9 : x5_1.length < 140737488355328
                · rw [if_pos c9] at H
                  have LMc9 := Aside0.mk c9
                  clear c9
                  obtain ⟨y209, hy209⟩ : ∃ y_ : List Int, y_ = (x5_1 ++ [rd l0 (ji6)]) := ⟨_, rfl⟩
                  replace H : (spec_l1Pick.l0 k1 l0 y209 l1 (l1.length : Int) (wrap64 (x10_1 + 1))) = some r := by first | (rw [hy209]; with_reducible exact H) | (have H2_ := (Option.bind_some _ _).symm.trans H; rw [hy209]; with_reducible exact H2_) | (have H2_ := (Option.bind_some _ _).symm.trans H; with_reducible exact H2_) | with_reducible exact H | (rw [hy209]; exact H) | exact H
                  have Ny209 := Aside0.mk hy209
                  clear hy209
                  have H' := Aside0.mk H
                  clear H
                  have p207 : 0 ≤ (x10_1 : Int) := of_decide_eq_true (by first | (with_reducible assumption) | assumption)
                  have q207 : x10_1 < (l1.length : Int) := of_decide_eq_true (by first | (with_reducible assumption) | assumption)
                  obtain ⟨ad207, e207, hx207_0⟩ := Kd.at_int HR1.out x10_1 p207 q207
                  cases e207
                  replace hx207_0 := (HB.out.cell (World.block_lt_of_cell? w _ hx207_0)).trans hx207_0
                  replace p207 := eq_true p207
                  replace q207 := eq_true q207
                  have p208 : 0 ≤ ((ji6) : Int) := of_decide_eq_true (by first | (with_reducible assumption) | assumption)
                  have q208 : (ji6) < (l0.length : Int) := of_decide_eq_true (by first | (with_reducible assumption) | assumption)
                  obtain ⟨ad208, e208, hx208_0⟩ := Kd.at_int HR0.out (ji6) p208 q208
                  cases e208
                  replace hx208_0 := (HB.out.cell (World.block_lt_of_cell? w _ hx208_0)).trans hx208_0
                  replace p208 := eq_true p208
                  replace q208 := eq_true q208
                  go_wp2_with (first | ((with_reducible refine gate_builtin (b := .append) (xs := #[.tmp 14, .tmp 20]) rfl ?_); at_builtin; refine Kd.R_append (Kd.int .u8) (w0 := w) w.heap.size rfl (.tmp 14) (.tmp 20) 29 5 (.int .u8 0) 1 rfl Try.underlying29 info5 rfl (by decide) (by omega) u5 x5_1 (rd l0 (ji6)) [.int .u8 (rd l0 (ji6))] (fun _ => True) (fun _ => False) rfl rfl ?aP (fun _ hk => hk.elim) ?aF ?aO ?aB ?aS ?aL ?_; (case aP => exact rfl); (case aB => exact (by repeat (first | (with_reducible first | exact HB.out | apply below_alloc | apply pw_below_drewN | apply below_drew1) | exact HB.out))); (case aF => exact (fun _ _ => trivial)); (case aO => exact (by (with_reducible repeat (first | apply Kd.R_alloc | apply Kd.R_drewN | apply Kd.R_drew)); exact HO_5.out)); (case aS => exact (below_size (by repeat (first | (with_reducible first | exact HB.out | apply below_alloc | apply pw_below_drewN | apply below_drew1) | exact HB.out)))); (case aL => have := LMc9.out; omega); intro v210 w10 ho hb hg hat; rw [← Ny209.out] at ho; have n0_ := Aside0.mk (hb); have n1_ := Aside0.mk (ho); clear HB; clear HO_5; have HB := n0_; have HO211 := n1_; clear n0_ n1_; clear ho hb hg hat))
                  go_roundg k1
                  case measure => have := HK1.out; omega
                  case rel => exact ⟨(y209), (wrap64 (x10_1 + 1)), (by first | rfl | (simp; done) | (simp [*]; done)), H', ⟨by have := HK1.out; omega⟩, ⟨by (with_reducible repeat (first | apply Kd.R_alloc | apply Kd.R_drewN | apply Kd.R_drew)); exact HO211.out⟩, ⟨by repeat (first | (with_reducible first | exact HB.out | apply below_alloc | apply pw_below_drewN | apply below_drew1) | exact HB.out)⟩⟩
                · rw [if_neg c9] at H
                  exact absurd H (by simp)
              · rw [if_neg c8] at H
                exact absurd H (by simp)
            · rw [if_neg c7] at H
              exact absurd H (by simp)
          · rw [if_neg c5] at H
            exact absurd H (by simp)
        · rw [if_neg c4] at H
          exact absurd H (by simp)
      · rw [if_neg c3] at H
        have c3b0 : decide (x10_1 < (l1.length : Int)) = false := decide_eq_false c3
        clear c3
        obtain rfl := Option.some.inj H
        go_wp2
        go_ret
        exact ⟨_, by first | rfl | (simp [errW_none, errW_some] <;> rfl) | (simp [*, errW_none, errW_some] <;> rfl), by (with_reducible repeat (first | apply Kd.R_alloc | apply Kd.R_drewN | apply Kd.R_drew)); exact HO_5.out, by repeat (first | (with_reducible first | exact HB.out | apply below_alloc | apply pw_below_drewN | apply below_drew1) | exact HB.out)⟩

end Go.Proofs.Ytiejallnkgllnaa.LQ
namespace Go.Proofs.Ytiejallnkgllnaa.LQ
open Go.RowKit Go.Proofs.YtiejallnkgllnaaW.PrintWords Go.Proofs.YtiejallnkgllnaaW.PrintLast Go.Proofs.YtiejallnkgllnaaW.PrintMore
attribute [local go_sem] max2_int min2_int max_two min_two max_three min_three max_four min_four   -- for this text's walks alone
set_option linter.unusedVariables false
set_option linter.unusedSimpArgs false

def spec_l1PC1.f  : Option (List Int) := some (([57, 49, 41, 33, 25, 17, 9, 1, 58, 50, 42, 34, 26, 18, 10, 2, 59, 51, 43, 35, 27, 19, 11, 3, 60, 52, 44, 36, 63, 55, 47, 39, 31, 23, 15, 7, 62, 54, 46, 38, 30, 22, 14, 6, 61, 53, 45, 37, 29, 21, 13, 5, 28, 20, 12, 4] : List Int))
set_option maxHeartbeats 8000000 in
set_option maxRecDepth 100000 in
theorem spec_l1PC1.calls  (r : List Int) (w : World) (h : spec_l1PC1.f  = some r) :
    Calls Try.prog 127 #[] w fun e w' => ∃ v0_ : Value, e = .returned (v0_) ∧ Kd.R (Kd.int .i64) 3 w' w.heap.size (fun _ => True) v0_ r ∧ Below w.heap.size w w' := by
  have HB := Aside0.mk (Below.refl w.heap.size w)
  have H : (some (([57, 49, 41, 33, 25, 17, 9, 1, 58, 50, 42, 34, 26, 18, 10, 2, 59, 51, 43, 35, 27, 19, 11, 3, 60, 52, 44, 36, 63, 55, 47, 39, 31, 23, 15, 7, 62, 54, 46, 38, 30, 22, 14, 6, 61, 53, 45, 37, 29, 21, 13, 5, 28, 20, 12, 4] : List Int))) = some r := h
  clear h
  obtain ⟨y212, hy212⟩ : ∃ y_ : List Int, y_ = (([57, 49, 41, 33, 25, 17, 9, 1, 58, 50, 42, 34, 26, 18, 10, 2, 59, 51, 43, 35, 27, 19, 11, 3, 60, 52, 44, 36, 63, 55, 47, 39, 31, 23, 15, 7, 62, 54, 46, 38, 30, 22, 14, 6, 61, 53, 45, 37, 29, 21, 13, 5, 28, 20, 12, 4] : List Int)) := ⟨_, rfl⟩
  replace H : (some y212) = some r := by first | (rw [hy212]; with_reducible exact H) | (have H2_ := (Option.bind_some _ _).symm.trans H; rw [hy212]; with_reducible exact H2_) | (have H2_ := (Option.bind_some _ _).symm.trans H; with_reducible exact H2_) | with_reducible exact H | (rw [hy212]; exact H) | exact H
  have Ny212 := Aside0.mk hy212
  clear hy212
  obtain rfl := Option.some.inj H
  go_enter Try.func127, Try.ntmps127
  go_wp2_with (first | ((with_reducible refine gate_dst (N := 1) rfl ?_); refine Kd.R_lit (Kd.int .i64) _ 3 ?hg (N := 1) ?hd (xs := ([57, 49, 41, 33, 25, 17, 9, 1, 58, 50, 42, 34, 26, 18, 10, 2, 59, 51, 43, 35, 27, 19, 11, 3, 60, 52, 44, 36, 63, 55, 47, 39, 31, 23, 15, 7, 62, 54, 46, 38, 30, 22, 14, 6, 61, 53, 45, 37, 29, 21, 13, 5, 28, 20, 12, 4] : List Int)) (inner := [.int .i64 57, .int .i64 49, .int .i64 41, .int .i64 33, .int .i64 25, .int .i64 17, .int .i64 9, .int .i64 1, .int .i64 58, .int .i64 50, .int .i64 42, .int .i64 34, .int .i64 26, .int .i64 18, .int .i64 10, .int .i64 2, .int .i64 59, .int .i64 51, .int .i64 43, .int .i64 35, .int .i64 27, .int .i64 19, .int .i64 11, .int .i64 3, .int .i64 60, .int .i64 52, .int .i64 44, .int .i64 36, .int .i64 63, .int .i64 55, .int .i64 47, .int .i64 39, .int .i64 31, .int .i64 23, .int .i64 15, .int .i64 7, .int .i64 62, .int .i64 54, .int .i64 46, .int .i64 38, .int .i64 30, .int .i64 22, .int .i64 14, .int .i64 6, .int .i64 61, .int .i64 53, .int .i64 45, .int .i64 37, .int .i64 29, .int .i64 21, .int .i64 13, .int .i64 5, .int .i64 28, .int .i64 20, .int .i64 12, .int .i64 4]) (ok := fun _ => True) (okp := fun _ => True) ?hr ?hp (fun _ hk => hk) trivial (Below.refl _ _) (Nat.le_refl _) (by simp) ?_; (case hd => rfl); (case hg => rfl); (case hr => first | (go_simp; done) | (go_simp; rfl)); (case hp => exact (Reps.one (show Kd.M (Kd.int .i64) _ _ _ 57 [.int .i64 57] from rfl) (Reps.one (show Kd.M (Kd.int .i64) _ _ _ 49 [.int .i64 49] from rfl) (Reps.one (show Kd.M (Kd.int .i64) _ _ _ 41 [.int .i64 41] from rfl) (Reps.one (show Kd.M (Kd.int .i64) _ _ _ 33 [.int .i64 33] from rfl) (Reps.one (show Kd.M (Kd.int .i64) _ _ _ 25 [.int .i64 25] from rfl) (Reps.one (show Kd.M (Kd.int .i64) _ _ _ 17 [.int .i64 17] from rfl) (Reps.one (show Kd.M (Kd.int .i64) _ _ _ 9 [.int .i64 9] from rfl) (Reps.one (show Kd.M (Kd.int .i64) _ _ _ 1 [.int .i64 1] from rfl) (Reps.one (show Kd.M (Kd.int .i64) _ _ _ 58 [.int .i64 58] from rfl) (Reps.one (show Kd.M (Kd.int .i64) _ _ _ 50 [.int .i64 50] from rfl) (Reps.one (show Kd.M (Kd.int .i64) _ _ _ 42 [.int .i64 42] from rfl) (Reps.one (show Kd.M (Kd.int .i64) _ _ _ 34 [.int .i64 34] from rfl) (Reps.one (show Kd.M (Kd.int .i64) _ _ _ 26 [.int .i64 26] from rfl) (Reps.one (show Kd.M (Kd.int .i64) _ _ _ 18 [.int .i64 18] from rfl) (Reps.one (show Kd.M (Kd.int .i64) _ _ _ 10 [.int .i64 10] from rfl) (Reps.one (show Kd.M (Kd.int .i64) _ _ _ 2 [.int .i64 2] from rfl) (Reps.one (show Kd.M (Kd.int .i64) _ _ _ 59 [.int .i64 59] from rfl) (Reps.one (show Kd.M (Kd.int .i64) _ _ _ 51 [.int .i64 51] from rfl) (Reps.one (show Kd.M (Kd.int .i64) _ _ _ 43 [.int .i64 43] from rfl) (Reps.one (show Kd.M (Kd.int .i64) _ _ _ 35 [.int .i64 35] from rfl) (Reps.one (show Kd.M (Kd.int .i64) _ _ _ 27 [.int .i64 27] from rfl) (Reps.one (show Kd.M (Kd.int .i64) _ _ _ 19 [.int .i64 19] from rfl) (Reps.one (show Kd.M (Kd.int .i64) _ _ _ 11 [.int .i64 11] from rfl) (Reps.one (show Kd.M (Kd.int .i64) _ _ _ 3 [.int .i64 3] from rfl) (Reps.one (show Kd.M (Kd.int .i64) _ _ _ 60 [.int .i64 60] from rfl) (Reps.one (show Kd.M (Kd.int .i64) _ _ _ 52 [.int .i64 52] from rfl) (Reps.one (show Kd.M (Kd.int .i64) _ _ _ 44 [.int .i64 44] from rfl) (Reps.one (show Kd.M (Kd.int .i64) _ _ _ 36 [.int .i64 36] from rfl) (Reps.one (show Kd.M (Kd.int .i64) _ _ _ 63 [.int .i64 63] from rfl) (Reps.one (show Kd.M (Kd.int .i64) _ _ _ 55 [.int .i64 55] from rfl) (Reps.one (show Kd.M (Kd.int .i64) _ _ _ 47 [.int .i64 47] from rfl) (Reps.one (show Kd.M (Kd.int .i64) _ _ _ 39 [.int .i64 39] from rfl) (Reps.one (show Kd.M (Kd.int .i64) _ _ _ 31 [.int .i64 31] from rfl) (Reps.one (show Kd.M (Kd.int .i64) _ _ _ 23 [.int .i64 23] from rfl) (Reps.one (show Kd.M (Kd.int .i64) _ _ _ 15 [.int .i64 15] from rfl) (Reps.one (show Kd.M (Kd.int .i64) _ _ _ 7 [.int .i64 7] from rfl) (Reps.one (show Kd.M (Kd.int .i64) _ _ _ 62 [.int .i64 62] from rfl) (Reps.one (show Kd.M (Kd.int .i64) _ _ _ 54 [.int .i64 54] from rfl) (Reps.one (show Kd.M (Kd.int .i64) _ _ _ 46 [.int .i64 46] from rfl) (Reps.one (show Kd.M (Kd.int .i64) _ _ _ 38 [.int .i64 38] from rfl) (Reps.one (show Kd.M (Kd.int .i64) _ _ _ 30 [.int .i64 30] from rfl) (Reps.one (show Kd.M (Kd.int .i64) _ _ _ 22 [.int .i64 22] from rfl) (Reps.one (show Kd.M (Kd.int .i64) _ _ _ 14 [.int .i64 14] from rfl) (Reps.one (show Kd.M (Kd.int .i64) _ _ _ 6 [.int .i64 6] from rfl) (Reps.one (show Kd.M (Kd.int .i64) _ _ _ 61 [.int .i64 61] from rfl) (Reps.one (show Kd.M (Kd.int .i64) _ _ _ 53 [.int .i64 53] from rfl) (Reps.one (show Kd.M (Kd.int .i64) _ _ _ 45 [.int .i64 45] from rfl) (Reps.one (show Kd.M (Kd.int .i64) _ _ _ 37 [.int .i64 37] from rfl) (Reps.one (show Kd.M (Kd.int .i64) _ _ _ 29 [.int .i64 29] from rfl) (Reps.one (show Kd.M (Kd.int .i64) _ _ _ 21 [.int .i64 21] from rfl) (Reps.one (show Kd.M (Kd.int .i64) _ _ _ 13 [.int .i64 13] from rfl) (Reps.one (show Kd.M (Kd.int .i64) _ _ _ 5 [.int .i64 5] from rfl) (Reps.one (show Kd.M (Kd.int .i64) _ _ _ 28 [.int .i64 28] from rfl) (Reps.one (show Kd.M (Kd.int .i64) _ _ _ 20 [.int .i64 20] from rfl) (Reps.one (show Kd.M (Kd.int .i64) _ _ _ 12 [.int .i64 12] from rfl) (Reps.one (show Kd.M (Kd.int .i64) _ _ _ 4 [.int .i64 4] from rfl) (Reps.none _ _)))))))))))))))))))))))))))))))))))))))))))))))))))))))))); intro v213 w1 ho2 hb hg_ hnew_; clear hg_ hnew_; (first | rw [← Ny212.out] at ho2 | (simp only [Int.reduceToNat] at ho2; rw [← Ny212.out] at ho2)); have n0_ := Aside0.mk (Kd.R_lower ho2 (below_size (by repeat (first | (with_reducible first | exact HB.out | apply below_alloc | apply pw_below_drewN | apply below_drew1) | exact HB.out)))); have n1_ := Aside0.mk (below_step (by repeat (first | (with_reducible first | exact HB.out | apply below_alloc | apply pw_below_drewN | apply below_drew1) | exact HB.out)) hb); clear HB; have HO214 := n0_; have HB := n1_; clear n0_ n1_; clear hb ho2))
  go_ret
  exact ⟨_, by first | rfl | (simp [errW_none, errW_some] <;> rfl) | (simp [*, errW_none, errW_some] <;> rfl), by (with_reducible repeat (first | apply Kd.R_alloc | apply Kd.R_drewN | apply Kd.R_drew)); exact HO214.out, by repeat (first | (with_reducible first | exact HB.out | apply below_alloc | apply pw_below_drewN | apply below_drew1) | exact HB.out)⟩

def spec_l1PC2.f  : Option (List Int) := some (([14, 17, 11, 24, 1, 5, 3, 28, 15, 6, 21, 10, 23, 19, 12, 4, 26, 8, 16, 7, 27, 20, 13, 2, 41, 52, 31, 37, 47, 55, 30, 40, 51, 45, 33, 48, 44, 49, 39, 56, 34, 53, 46, 42, 50, 36, 29, 32] : List Int))
set_option maxHeartbeats 8000000 in
set_option maxRecDepth 100000 in
theorem spec_l1PC2.calls  (r : List Int) (w : World) (h : spec_l1PC2.f  = some r) :
    Calls Try.prog 128 #[] w fun e w' => ∃ v0_ : Value, e = .returned (v0_) ∧ Kd.R (Kd.int .i64) 3 w' w.heap.size (fun _ => True) v0_ r ∧ Below w.heap.size w w' := by
  have HB := Aside0.mk (Below.refl w.heap.size w)
  have H : (some (([14, 17, 11, 24, 1, 5, 3, 28, 15, 6, 21, 10, 23, 19, 12, 4, 26, 8, 16, 7, 27, 20, 13, 2, 41, 52, 31, 37, 47, 55, 30, 40, 51, 45, 33, 48, 44, 49, 39, 56, 34, 53, 46, 42, 50, 36, 29, 32] : List Int))) = some r := h
  clear h
  obtain ⟨y215, hy215⟩ : ∃ y_ : List Int, y_ = (([14, 17, 11, 24, 1, 5, 3, 28, 15, 6, 21, 10, 23, 19, 12, 4, 26, 8, 16, 7, 27, 20, 13, 2, 41, 52, 31, 37, 47, 55, 30, 40, 51, 45, 33, 48, 44, 49, 39, 56, 34, 53, 46, 42, 50, 36, 29, 32] : List Int)) := ⟨_, rfl⟩
  replace H : (some y215) = some r := by first | (rw [hy215]; with_reducible exact H) | (have H2_ := (Option.bind_some _ _).symm.trans H; rw [hy215]; with_reducible exact H2_) | (have H2_ := (Option.bind_some _ _).symm.trans H; with_reducible exact H2_) | with_reducible exact H | (rw [hy215]; exact H) | exact H
  have Ny215 := Aside0.mk hy215
  clear hy215
  obtain rfl := Option.some.inj H
  go_enter Try.func128, Try.ntmps128
  go_wp2_with (first | ((with_reducible refine gate_dst (N := 1) rfl ?_); refine Kd.R_lit (Kd.int .i64) _ 3 ?hg (N := 1) ?hd (xs := ([14, 17, 11, 24, 1, 5, 3, 28, 15, 6, 21, 10, 23, 19, 12, 4, 26, 8, 16, 7, 27, 20, 13, 2, 41, 52, 31, 37, 47, 55, 30, 40, 51, 45, 33, 48, 44, 49, 39, 56, 34, 53, 46, 42, 50, 36, 29, 32] : List Int)) (inner := [.int .i64 14, .int .i64 17, .int .i64 11, .int .i64 24, .int .i64 1, .int .i64 5, .int .i64 3, .int .i64 28, .int .i64 15, .int .i64 6, .int .i64 21, .int .i64 10, .int .i64 23, .int .i64 19, .int .i64 12, .int .i64 4, .int .i64 26, .int .i64 8, .int .i64 16, .int .i64 7, .int .i64 27, .int .i64 20, .int .i64 13, .int .i64 2, .int .i64 41, .int .i64 52, .int .i64 31, .int .i64 37, .int .i64 47, .int .i64 55, .int .i64 30, .int .i64 40, .int .i64 51, .int .i64 45, .int .i64 33, .int .i64 48, .int .i64 44, .int .i64 49, .int .i64 39, .int .i64 56, .int .i64 34, .int .i64 53, .int .i64 46, .int .i64 42, .int .i64 50, .int .i64 36, .int .i64 29, .int .i64 32]) (ok := fun _ => True) (okp := fun _ => True) ?hr ?hp (fun _ hk => hk) trivial (Below.refl _ _) (Nat.le_refl _) (by simp) ?_; (case hd => rfl); (case hg => rfl); (case hr => first | (go_simp; done) | (go_simp; rfl)); (case hp => exact (Reps.one (show Kd.M (Kd.int .i64) _ _ _ 14 [.int .i64 14] from rfl) (Reps.one (show Kd.M (Kd.int .i64) _ _ _ 17 [.int .i64 17] from rfl) (Reps.one (show Kd.M (Kd.int .i64) _ _ _ 11 [.int .i64 11] from rfl) (Reps.one (show Kd.M (Kd.int .i64) _ _ _ 24 [.int .i64 24] from rfl) (Reps.one (show Kd.M (Kd.int .i64) _ _ _ 1 [.int .i64 1] from rfl) (Reps.one (show Kd.M (Kd.int .i64) _ _ _ 5 [.int .i64 5] from rfl) (Reps.one (show Kd.M (Kd.int .i64) _ _ _ 3 [.int .i64 3] from rfl) (Reps.one (show Kd.M (Kd.int .i64) _ _ _ 28 [.int .i64 28] from rfl) (Reps.one (show Kd.M (Kd.int .i64) _ _ _ 15 [.int .i64 15] from rfl) (Reps.one (show Kd.M (Kd.int .i64) _ _ _ 6 [.int .i64 6] from rfl) (Reps.one (show Kd.M (Kd.int .i64) _ _ _ 21 [.int .i64 21] from rfl) (Reps.one (show Kd.M (Kd.int .i64) _ _ _ 10 [.int .i64 10] from rfl) (Reps.one (show Kd.M (Kd.int .i64) _ _ _ 23 [.int .i64 23] from rfl) (Reps.one (show Kd.M (Kd.int .i64) _ _ _ 19 [.int .i64 19] from rfl) (Reps.one (show Kd.M (Kd.int .i64) _ _ _ 12 [.int .i64 12] from rfl) (Reps.one (show Kd.M (Kd.int .i64) _ _ _ 4 [.int .i64 4] from rfl) (Reps.one (show Kd.M (Kd.int .i64) _ _ _ 26 [.int .i64 26] from rfl) (Reps.one (show Kd.M (Kd.int .i64) _ _ _ 8 [.int .i64 8] from rfl) (Reps.one (show Kd.M (Kd.int .i64) _ _ _ 16 [.int .i64 16] from rfl) (Reps.one (show Kd.M (Kd.int .i64) _ _ _ 7 [.int .i64 7] from rfl) (Reps.one (show Kd.M (Kd.int .i64) _ _ _ 27 [.int .i64 27] from rfl) (Reps.one (show Kd.M (Kd.int .i64) _ _ _ 20 [.int .i64 20] from rfl) (Reps.one (show Kd.M (Kd.int .i64) _ _ _ 13 [.int .i64 13] from rfl) (Reps.one (show Kd.M (Kd.int .i64) _ _ _ 2 [.int .i64 2] from rfl) (Reps.one (show Kd.M (Kd.int .i64) _ _ _ 41 [.int .i64 41] from rfl) (Reps.one (show Kd.M (Kd.int .i64) _ _ _ 52 [.int .i64 52] from rfl) (Reps.one (show Kd.M (Kd.int .i64) _ _ _ 31 [.int .i64 31] from rfl) (Reps.one (show Kd.M (Kd.int .i64) _ _ _ 37 [.int .i64 37] from rfl) (Reps.one (show Kd.M (Kd.int .i64) _ _ _ 47 [.int .i64 47] from rfl) (Reps.one (show Kd.M (Kd.int .i64) _ _ _ 55 [.int .i64 55] from rfl) (Reps.one (show Kd.M (Kd.int .i64) _ _ _ 30 [.int .i64 30] from rfl) (Reps.one (show Kd.M (Kd.int .i64) _ _ _ 40 [.int .i64 40] from rfl) (Reps.one (show Kd.M (Kd.int .i64) _ _ _ 51 [.int .i64 51] from rfl) (Reps.one (show Kd.M (Kd.int .i64) _ _ _ 45 [.int .i64 45] from rfl) (Reps.one (show Kd.M (Kd.int .i64) _ _ _ 33 [.int .i64 33] from rfl) (Reps.one (show Kd.M (Kd.int .i64) _ _ _ 48 [.int .i64 48] from rfl) (Reps.one (show Kd.M (Kd.int .i64) _ _ _ 44 [.int .i64 44] from rfl) (Reps.one (show Kd.M (Kd.int .i64) _ _ _ 49 [.int .i64 49] from rfl) (Reps.one (show Kd.M (Kd.int .i64) _ _ _ 39 [.int .i64 39] from rfl) (Reps.one (show Kd.M (Kd.int .i64) _ _ _ 56 [.int .i64 56] from rfl) (Reps.one (show Kd.M (Kd.int .i64) _ _ _ 34 [.int .i64 34] from rfl) (Reps.one (show Kd.M (Kd.int .i64) _ _ _ 53 [.int .i64 53] from rfl) (Reps.one (show Kd.M (Kd.int .i64) _ _ _ 46 [.int .i64 46] from rfl) (Reps.one (show Kd.M (Kd.int .i64) _ _ _ 42 [.int .i64 42] from rfl) (Reps.one (show Kd.M (Kd.int .i64) _ _ _ 50 [.int .i64 50] from rfl) (Reps.one (show Kd.M (Kd.int .i64) _ _ _ 36 [.int .i64 36] from rfl) (Reps.one (show Kd.M (Kd.int .i64) _ _ _ 29 [.int .i64 29] from rfl) (Reps.one (show Kd.M (Kd.int .i64) _ _ _ 32 [.int .i64 32] from rfl) (Reps.none _ _)))))))))))))))))))))))))))))))))))))))))))))))))); intro v216 w1 ho2 hb hg_ hnew_; clear hg_ hnew_; (first | rw [← Ny215.out] at ho2 | (simp only [Int.reduceToNat] at ho2; rw [← Ny215.out] at ho2)); have n0_ := Aside0.mk (Kd.R_lower ho2 (below_size (by repeat (first | (with_reducible first | exact HB.out | apply below_alloc | apply pw_below_drewN | apply below_drew1) | exact HB.out)))); have n1_ := Aside0.mk (below_step (by repeat (first | (with_reducible first | exact HB.out | apply below_alloc | apply pw_below_drewN | apply below_drew1) | exact HB.out)) hb); clear HB; have HO217 := n0_; have HB := n1_; clear n0_ n1_; clear hb ho2))
  go_ret
  exact ⟨_, by first | rfl | (simp [errW_none, errW_some] <;> rfl) | (simp [*, errW_none, errW_some] <;> rfl), by (with_reducible repeat (first | apply Kd.R_alloc | apply Kd.R_drewN | apply Kd.R_drew)); exact HO217.out, by repeat (first | (with_reducible first | exact HB.out | apply below_alloc | apply pw_below_drewN | apply below_drew1) | exact HB.out)⟩

mutual
def spec_l1IP.l0 : Nat → List Int → List Int → Int → Int → Option (List Int)
  | 0, _, _, _, _ => none
  | k + 1, x1, x5, x6, x7 => if x7 < x6 then (if 0 ≤ x7 then (if x7 < (x5.length : Int) then (spec_l1IP.l1 k x1 (rd x5 x7) 0 x5 x6 x7) else (none)) else (none)) else (some x1)
def spec_l1IP.l1 : Nat → List Int → Int → Int → List Int → Int → Int → Option (List Int)
  | 0, _, _, _, _, _, _ => none
  | k + 1, x1, x3, x4, x5, x6, x7 => if x4 < 8 then (if x1.length < 17592186044416 then (spec_l1IP.l1 k (x1 ++ [wrap64 (x3 - (wrap64 (8 * x4)))]) x3 (wrap64 (x4 + 1)) x5 x6 x7) else (none)) else (spec_l1IP.l0 k x1 x5 x6 (wrap64 (x7 + 1)))
end
def spec_l1IP.f (k : Nat)  : Option (List Int) := (some (([58, 60, 62, 64, 57, 59, 61, 63] : List Int) : List Int)).bind fun y218 => (spec_l1IP.l0 k ([] : List Int) y218 (y218.length : Int) 0)
set_option maxHeartbeats 8000000 in
set_option maxRecDepth 100000 in
theorem spec_l1IP.calls (k : Nat)  (r : List Int) (w : World) (h : spec_l1IP.f k  = some r) :
    Calls Try.prog 120 #[] w fun e w' => ∃ v0_ : Value, e = .returned (v0_) ∧ Kd.R (Kd.int .i64) 3 w' w.heap.size (fun _ => True) v0_ r ∧ Below w.heap.size w w' := by
  have HB := Aside0.mk (Below.refl w.heap.size w)
  have H : ((some (([58, 60, 62, 64, 57, 59, 61, 63] : List Int) : List Int)).bind fun y218 => (spec_l1IP.l0 k ([] : List Int) y218 (y218.length : Int) 0)) = some r := h
  clear h
  obtain ⟨y218, hy218⟩ : ∃ y_ : List Int, y_ = (([58, 60, 62, 64, 57, 59, 61, 63] : List Int)) := ⟨_, rfl⟩
  replace H : (spec_l1IP.l0 k ([] : List Int) y218 (y218.length : Int) 0) = some r := by first | (rw [hy218]; with_reducible exact H) | (have H2_ := (Option.bind_some _ _).symm.trans H; rw [hy218]; with_reducible exact H2_) | (have H2_ := (Option.bind_some _ _).symm.trans H; with_reducible exact H2_) | with_reducible exact H | (rw [hy218]; exact H) | exact H
  have Ny218 := Aside0.mk hy218
  clear hy218
  have H' := Aside0.mk H
  clear H
  go_enter Try.func120, Try.ntmps120
  go_wp2_with (first | ((with_reducible refine gate_dst (N := 5) rfl ?_); refine Kd.R_lit (Kd.int .i64) _ 3 ?hg (N := 5) ?hd (xs := ([58, 60, 62, 64, 57, 59, 61, 63] : List Int)) (inner := [.int .i64 58, .int .i64 60, .int .i64 62, .int .i64 64, .int .i64 57, .int .i64 59, .int .i64 61, .int .i64 63]) (ok := fun _ => True) (okp := fun _ => True) ?hr ?hp (fun _ hk => hk) trivial (Below.refl _ _) (Nat.le_refl _) (by simp) ?_; (case hd => rfl); (case hg => rfl); (case hr => first | (go_simp; done) | (go_simp; rfl)); (case hp => exact (Reps.one (show Kd.M (Kd.int .i64) _ _ _ 58 [.int .i64 58] from rfl) (Reps.one (show Kd.M (Kd.int .i64) _ _ _ 60 [.int .i64 60] from rfl) (Reps.one (show Kd.M (Kd.int .i64) _ _ _ 62 [.int .i64 62] from rfl) (Reps.one (show Kd.M (Kd.int .i64) _ _ _ 64 [.int .i64 64] from rfl) (Reps.one (show Kd.M (Kd.int .i64) _ _ _ 57 [.int .i64 57] from rfl) (Reps.one (show Kd.M (Kd.int .i64) _ _ _ 59 [.int .i64 59] from rfl) (Reps.one (show Kd.M (Kd.int .i64) _ _ _ 61 [.int .i64 61] from rfl) (Reps.one (show Kd.M (Kd.int .i64) _ _ _ 63 [.int .i64 63] from rfl) (Reps.none _ _)))))))))); intro v219 w1 ho2 hb hg_ hnew_; clear hg_ hnew_; (first | rw [← Ny218.out] at ho2 | (simp only [Int.reduceToNat] at ho2; rw [← Ny218.out] at ho2)); have n0_ := Aside0.mk (Kd.R_lower ho2 (below_size (by repeat (first | (with_reducible first | exact HB.out | apply below_alloc | apply pw_below_drewN | apply below_drew1) | exact HB.out)))); have n1_ := Aside0.mk (below_step (by repeat (first | (with_reducible first | exact HB.out | apply below_alloc | apply pw_below_drewN | apply below_drew1) | exact HB.out)) hb); clear HB; have HO220 := n0_; have HB := n1_; clear n0_ n1_; clear hb ho2; obtain ⟨Ao3, co3, eo3⟩ := Kd.R_slice HO220.out; subst eo3))
  go_loopg [1, 7] k (fun kq v1 v7 w' => ∃ (x1_1 : List Int) (x7_1 : Int), v7 = .int .i64 x7_1 ∧ Aside0 (spec_l1IP.l0 kq x1_1 y218 (y218.length : Int) x7_1 = some r) ∧ Aside0 (kq ≤ k) ∧ Aside0 (Kd.R (Kd.int .i64) 3 w' w.heap.size (fun k_ => some k_ ≠ ((.slice Ao3 y218.length co3) : Value).ownBlock) v1 x1_1) ∧ Aside0 (Kd.R (Kd.int .i64) 3 w' w.heap.size (fun k_ => some k_ ≠ (v1 : Value).ownBlock) (.slice Ao3 y218.length co3) y218) ∧ Aside0 (Below w.heap.size w w'))
  case atStart => exact ⟨(([] : List Int)), (0), (by first | rfl | (simp; done) | (simp [*]; done)), H', ⟨Nat.le_refl _⟩, ⟨by first | exact Kd.R_nil _ _ _ _ _ | exact Kd.N_nil _ _ _ _ _ | exact Kd.V_nil _ _ _ _ _ | exact Kd.Q_nil _ _ _ _ _ | exact Kd.S_nil _ _ _ _ _⟩, ⟨by (with_reducible repeat (first | apply Kd.R_alloc | apply Kd.R_drewN | apply Kd.R_drew)); exact Kd.R_mono HO220.out (fun _ hk => (by simp [Value.ownBlock]))⟩, ⟨by repeat (first | (with_reducible first | exact HB.out | apply below_alloc | apply pw_below_drewN | apply below_drew1) | exact HB.out)⟩⟩
  case round =>
    clear H'
    try clear c1
    try clear p2
    obtain ⟨x1_1, x7_1, rfl, HA, HK1, HO_1, HO_5, HB⟩ := hrel
    cases gk with
    | zero => exact absurd HA.out (by simp [spec_l1IP.l0])
    | succ k1 =>
      have H := HA.out
      clear HA
      simp only [spec_l1IP.l0] at H
      by_cases c4 : x7_1 < (y218.length : Int)
      · rw [if_pos c4] at H
        have c4b0 : decide (x7_1 < (y218.length : Int)) = true := decide_eq_true c4
        clear c4
        by_cases c5 : 0 ≤ x7_1
        · rw [if_pos c5] at H
          have c5b0 : decide (0 ≤ x7_1) = true := decide_eq_true c5
          clear c5
          by_cases c6 : x7_1 < (y218.length : Int)
          · rw [if_pos c6] at H
            have c6b0 : decide (x7_1 < (y218.length : Int)) = true := decide_eq_true c6
            clear c6
            have H' := Aside0.mk H
            clear H
            have p221 : 0 ≤ (x7_1 : Int) := of_decide_eq_true (by first | (with_reducible assumption) | assumption)
            have q221 : x7_1 < (y218.length : Int) := of_decide_eq_true (by first | (with_reducible assumption) | assumption)
            obtain ⟨ad221, e221, hx221_0⟩ := Kd.at_int (Kd.R_reads' HO_5.out).2.2 x7_1 p221 q221
            cases e221
            replace p221 := eq_true p221
            replace q221 := eq_true q221
            go_wp2
            go_loopg [1, 4] k1 (fun kq v1 v4 w' => ∃ (x1_2 : List Int) (x4_2 : Int), v4 = .int .i64 x4_2 ∧ Aside0 (spec_l1IP.l1 kq x1_2 (rd y218 x7_1) x4_2 y218 (y218.length : Int) x7_1 = some r) ∧ Aside0 (kq ≤ k1) ∧ Aside0 (Kd.R (Kd.int .i64) 3 w' w.heap.size (fun k_ => some k_ ≠ ((.slice (some ad221) y218.length co3) : Value).ownBlock) v1 x1_2) ∧ Aside0 (Kd.R (Kd.int .i64) 3 w' w.heap.size (fun k_ => some k_ ≠ (v1 : Value).ownBlock) (.slice (some ad221) y218.length co3) y218) ∧ Aside0 (Below w.heap.size w w'))
            case atStart => exact ⟨(x1_1), (0), (by first | rfl | (simp; done) | (simp [*]; done)), H', ⟨Nat.le_refl _⟩, ⟨by (with_reducible repeat (first | apply Kd.R_alloc | apply Kd.R_drewN | apply Kd.R_drew)); exact HO_1.out⟩, ⟨by (with_reducible repeat (first | apply Kd.R_alloc | apply Kd.R_drewN | apply Kd.R_drew)); exact HO_5.out⟩, ⟨by repeat (first | (with_reducible first | exact HB.out | apply below_alloc | apply pw_below_drewN | apply below_drew1) | exact HB.out)⟩⟩
            case round =>
              clear H'
              try clear c1
              try clear p2
              try clear q2
              try clear hx2
              try clear c4
              try clear c4b0
              try clear c5
              try clear c5b0
              try clear c6
              try clear c6b0
              try clear hx221_0
              try clear p2
              try clear p221
              try clear q221
              obtain ⟨x1_2, x4_2, rfl, HA, HK2, HO_1, HO_5, HB⟩ := hrel
              cases gk with
              | zero => exact absurd HA.out (by simp [spec_l1IP.l1])
              | succ k2 =>
                have H := HA.out
                clear HA
                simp only [spec_l1IP.l1] at H
                by_cases c7 : x4_2 < 8
                · rw [if_pos c7] at H
                  have c7b0 : decide (x4_2 < 8) = true := decide_eq_true c7
                  clear c7
                  by_cases c8 : x1_2.length < 17592186044416
                  · rw [if_pos c8] at H
                    have LMc8 := Aside0.mk c8
                    clear c8
                    obtain ⟨y222, hy222⟩ : ∃ y_ : List Int, y_ = (x1_2 ++ [wrap64 ((rd y218 x7_1) - (wrap64 (8 * x4_2)))]) := ⟨_, rfl⟩
                    replace H : (spec_l1IP.l1 k2 y222 (rd y218 x7_1) (wrap64 (x4_2 + 1)) y218 (y218.length : Int) x7_1) = some r := by first | (rw [hy222]; with_reducible exact H) | (have H2_ := (Option.bind_some _ _).symm.trans H; rw [hy222]; with_reducible exact H2_) | (have H2_ := (Option.bind_some _ _).symm.trans H; with_reducible exact H2_) | with_reducible exact H | (rw [hy222]; exact H) | exact H
                    have Ny222 := Aside0.mk hy222
                    clear hy222
                    have H' := Aside0.mk H
                    clear H
                    go_wp2_with (first | ((with_reducible refine gate_builtin (b := .append) (xs := #[.tmp 15, .tmp 20]) rfl ?_); at_builtin; refine Kd.R_append (Kd.int .i64) (w0 := w) w.heap.size rfl (.tmp 15) (.tmp 20) 110 3 (.int .i64 0) 8 rfl Try.underlying110 info3 rfl (by decide) (by omega) u1 x1_2 (wrap64 ((rd y218 x7_1) - (wrap64 (8 * x4_2)))) [.int .i64 (wrap64 ((rd y218 x7_1) - (wrap64 (8 * x4_2))))] (fun k_ => some k_ ≠ (.slice (some ad221) y218.length co3 : Value).ownBlock) (fun _ => False) rfl rfl ?aP (fun _ hk => hk.elim) ?aF ?aO ?aB ?aS ?aL ?_; (case aP => exact rfl); (case aB => exact (by repeat (first | (with_reducible first | exact HB.out | apply below_alloc | apply pw_below_drewN | apply below_drew1) | exact HB.out))); (case aF => exact (fun k_ hk => Kd.fresh' (Kd.R_lt (by (with_reducible repeat (first | apply Kd.R_alloc | apply Kd.R_drewN | apply Kd.R_drew)); exact HO_5.out)) k_ hk)); (case aO => exact (by (with_reducible repeat (first | apply Kd.R_alloc | apply Kd.R_drewN | apply Kd.R_drew)); exact HO_1.out)); (case aS => exact (below_size (by repeat (first | (with_reducible first | exact HB.out | apply below_alloc | apply pw_below_drewN | apply below_drew1) | exact HB.out)))); (case aL => have := LMc8.out; omega); intro v223 w9 ho hb hg hat; rw [← Ny222.out] at ho; have n0_ := Aside0.mk (Kd.R_after (ok := (fun _ => True)) (by (with_reducible repeat (first | apply Kd.R_alloc | apply Kd.R_drewN | apply Kd.R_drew)); exact Kd.R_mono HO_5.out (fun _ hk => ⟨trivial, hk⟩)) hg hat); have n1_ := Aside0.mk (hb); have n2_ := Aside0.mk (ho); clear HO_5; clear HB; clear HO_1; have HO_5 := n0_; have HB := n1_; have HO224 := n2_; clear n0_ n1_ n2_; clear ho hb hg hat))
                    go_roundg k2
                    case measure => have := HK1.out; have := HK2.out; omega
                    case rel => exact ⟨(y222), (wrap64 (x4_2 + 1)), (by first | rfl | (simp; done) | (simp [*]; done)), H', ⟨by have := HK1.out; have := HK2.out; omega⟩, ⟨by (with_reducible repeat (first | apply Kd.R_alloc | apply Kd.R_drewN | apply Kd.R_drew)); exact HO224.out⟩, ⟨by (with_reducible repeat (first | apply Kd.R_alloc | apply Kd.R_drewN | apply Kd.R_drew)); exact Kd.R_mono HO_5.out (fun _ hk => hk.2)⟩, ⟨by repeat (first | (with_reducible first | exact HB.out | apply below_alloc | apply pw_below_drewN | apply below_drew1) | exact HB.out)⟩⟩
                  · rw [if_neg c8] at H
                    exact absurd H (by simp)
                · rw [if_neg c7] at H
                  have c7b0 : decide (x4_2 < 8) = false := decide_eq_false c7
                  clear c7
                  have H' := Aside0.mk H
                  clear H
                  go_wp2
                  go_roundg k2
                  case measure => have := HK1.out; have := HK2.out; omega
                  case rel => exact ⟨(x1_2), (wrap64 (x7_1 + 1)), (by first | rfl | (simp; done) | (simp [*]; done)), H', ⟨by have := HK1.out; have := HK2.out; omega⟩, ⟨by (with_reducible repeat (first | apply Kd.R_alloc | apply Kd.R_drewN | apply Kd.R_drew)); exact HO_1.out⟩, ⟨by (with_reducible repeat (first | apply Kd.R_alloc | apply Kd.R_drewN | apply Kd.R_drew)); exact HO_5.out⟩, ⟨by repeat (first | (with_reducible first | exact HB.out | apply below_alloc | apply pw_below_drewN | apply below_drew1) | exact HB.out)⟩⟩
          · rw [if_neg c6] at H
            exact absurd H (by simp)
        · rw [if_neg c5] at H
          exact absurd H (by simp)
      · rw [if_neg c4] at H
        have c4b0 : decide (x7_1 < (y218.length : Int)) = false := decide_eq_false c4
        clear c4
        obtain rfl := Option.some.inj H
        go_wp2
        go_ret
        exact ⟨_, by first | rfl | (simp [errW_none, errW_some] <;> rfl) | (simp [*, errW_none, errW_some] <;> rfl), by (with_reducible repeat (first | apply Kd.R_alloc | apply Kd.R_drewN | apply Kd.R_drew)); exact Kd.R_mono HO_1.out (fun _ hk => trivial), by repeat (first | (with_reducible first | exact HB.out | apply below_alloc | apply pw_below_drewN | apply below_drew1) | exact HB.out)⟩

mutual
def spec_l1E.l0 : Nat → List Int → Int → Option (List Int)
  | 0, _, _ => none
  | k + 1, x1, x2 => if x2 < 8 then (spec_l1E.l1 k x1 x2 0) else (some x1)
def spec_l1E.l1 : Nat → List Int → Int → Int → Option (List Int)
  | 0, _, _, _ => none
  | k + 1, x1, x2, x3 => if x3 < 6 then (if x1.length < 17592186044416 then (spec_l1E.l1 k (x1 ++ [wrap64 ((Int.tmod (wrap64 ((wrap64 ((wrap64 (4 * x2)) + x3)) + 31)) 32) + 1)]) x2 (wrap64 (x3 + 1))) else (none)) else (spec_l1E.l0 k x1 (wrap64 (x2 + 1)))
end
def spec_l1E.f (k : Nat)  : Option (List Int) := spec_l1E.l0 k ([] : List Int) 0
set_option maxHeartbeats 8000000 in
set_option maxRecDepth 100000 in
theorem spec_l1E.calls (k : Nat)  (r : List Int) (w : World) (h : spec_l1E.f k  = some r) :
    Calls Try.prog 129 #[] w fun e w' => ∃ v0_ : Value, e = .returned (v0_) ∧ Kd.R (Kd.int .i64) 3 w' w.heap.size (fun _ => True) v0_ r ∧ Below w.heap.size w w' := by
  have HB := Aside0.mk (Below.refl w.heap.size w)
  have H : (spec_l1E.l0 k ([] : List Int) 0) = some r := h
  clear h
  have H' := Aside0.mk H
  clear H
  go_enter Try.func129, Try.ntmps129
  go_wp2
  go_loopg [1, 2] k (fun kq v1 v2 w' => ∃ (x1_1 : List Int) (x2_1 : Int), v2 = .int .i64 x2_1 ∧ Aside0 (spec_l1E.l0 kq x1_1 x2_1 = some r) ∧ Aside0 (kq ≤ k) ∧ Aside0 (Kd.R (Kd.int .i64) 3 w' w.heap.size (fun _ => True) v1 x1_1) ∧ Aside0 (Below w.heap.size w w'))
  case atStart => exact ⟨(([] : List Int)), (0), (by first | rfl | (simp; done) | (simp [*]; done)), H', ⟨Nat.le_refl _⟩, ⟨by first | exact Kd.R_nil _ _ _ _ _ | exact Kd.N_nil _ _ _ _ _ | exact Kd.V_nil _ _ _ _ _ | exact Kd.Q_nil _ _ _ _ _ | exact Kd.S_nil _ _ _ _ _⟩, ⟨by repeat (first | (with_reducible first | exact HB.out | apply below_alloc | apply pw_below_drewN | apply below_drew1) | exact HB.out)⟩⟩
  case round =>
    clear H'
    obtain ⟨x1_1, x2_1, rfl, HA, HK1, HO_1, HB⟩ := hrel
    cases gk with
    | zero => exact absurd HA.out (by simp [spec_l1E.l0])
    | succ k1 =>
      have H := HA.out
      clear HA
      simp only [spec_l1E.l0] at H
      by_cases c1 : x2_1 < 8
      · rw [if_pos c1] at H
        have c1b0 : decide (x2_1 < 8) = true := decide_eq_true c1
        clear c1
        have H' := Aside0.mk H
        clear H
        go_wp2
        go_loopg [1, 3] k1 (fun kq v1 v3 w' => ∃ (x1_2 : List Int) (x3_2 : Int), v3 = .int .i64 x3_2 ∧ Aside0 (spec_l1E.l1 kq x1_2 x2_1 x3_2 = some r) ∧ Aside0 (kq ≤ k1) ∧ Aside0 (Kd.R (Kd.int .i64) 3 w' w.heap.size (fun _ => True) v1 x1_2) ∧ Aside0 (Below w.heap.size w w'))
        case atStart => exact ⟨(x1_1), (0), (by first | rfl | (simp; done) | (simp [*]; done)), H', ⟨Nat.le_refl _⟩, ⟨by (with_reducible repeat (first | apply Kd.R_alloc | apply Kd.R_drewN | apply Kd.R_drew)); exact HO_1.out⟩, ⟨by repeat (first | (with_reducible first | exact HB.out | apply below_alloc | apply pw_below_drewN | apply below_drew1) | exact HB.out)⟩⟩
        case round =>
          clear H'
          try clear c1
          try clear c1b0
          obtain ⟨x1_2, x3_2, rfl, HA, HK2, HO_1, HB⟩ := hrel
          cases gk with
          | zero => exact absurd HA.out (by simp [spec_l1E.l1])
          | succ k2 =>
            have H := HA.out
            clear HA
            simp only [spec_l1E.l1] at H
            by_cases c2 : x3_2 < 6
            · rw [if_pos c2] at H
              have c2b0 : decide (x3_2 < 6) = true := decide_eq_true c2
              clear c2
              by_cases c3 : x1_2.length < 17592186044416
              · rw [if_pos c3] at H
                have LMc3 := Aside0.mk c3
                clear c3
                obtain ⟨y225, hy225⟩ : ∃ y_ : List Int, y_ = (x1_2 ++ [wrap64 ((Int.tmod (wrap64 ((wrap64 ((wrap64 (4 * x2_1)) + x3_2)) + 31)) 32) + 1)]) := ⟨_, rfl⟩
                replace H : (spec_l1E.l1 k2 y225 x2_1 (wrap64 (x3_2 + 1))) = some r := by first | (rw [hy225]; with_reducible exact H) | (have H2_ := (Option.bind_some _ _).symm.trans H; rw [hy225]; with_reducible exact H2_) | (have H2_ := (Option.bind_some _ _).symm.trans H; with_reducible exact H2_) | with_reducible exact H | (rw [hy225]; exact H) | exact H
                have Ny225 := Aside0.mk hy225
                clear hy225
                have H' := Aside0.mk H
                clear H
                go_wp2_with (first | ((with_reducible refine gate_builtin (b := .append) (xs := #[.tmp 12, .tmp 20]) rfl ?_); at_builtin; refine Kd.R_append (Kd.int .i64) (w0 := w) w.heap.size rfl (.tmp 12) (.tmp 20) 110 3 (.int .i64 0) 8 rfl Try.underlying110 info3 rfl (by decide) (by omega) u1 x1_2 (wrap64 ((Int.tmod (wrap64 ((wrap64 ((wrap64 (4 * x2_1)) + x3_2)) + 31)) 32) + 1)) [.int .i64 (wrap64 ((Int.tmod (wrap64 ((wrap64 ((wrap64 (4 * x2_1)) + x3_2)) + 31)) 32) + 1))] (fun _ => True) (fun _ => False) rfl rfl ?aP (fun _ hk => hk.elim) ?aF ?aO ?aB ?aS ?aL ?_; (case aP => exact rfl); (case aB => exact (by repeat (first | (with_reducible first | exact HB.out | apply below_alloc | apply pw_below_drewN | apply below_drew1) | exact HB.out))); (case aF => exact (fun _ _ => trivial)); (case aO => exact (by (with_reducible repeat (first | apply Kd.R_alloc | apply Kd.R_drewN | apply Kd.R_drew)); exact HO_1.out)); (case aS => exact (below_size (by repeat (first | (with_reducible first | exact HB.out | apply below_alloc | apply pw_below_drewN | apply below_drew1) | exact HB.out)))); (case aL => have := LMc3.out; omega); intro v226 w4 ho hb hg hat; rw [← Ny225.out] at ho; have n0_ := Aside0.mk (hb); have n1_ := Aside0.mk (ho); clear HB; clear HO_1; have HB := n0_; have HO227 := n1_; clear n0_ n1_; clear ho hb hg hat))
                go_roundg k2
                case measure => have := HK1.out; have := HK2.out; omega
                case rel => exact ⟨(y225), (wrap64 (x3_2 + 1)), (by first | rfl | (simp; done) | (simp [*]; done)), H', ⟨by have := HK1.out; have := HK2.out; omega⟩, ⟨by (with_reducible repeat (first | apply Kd.R_alloc | apply Kd.R_drewN | apply Kd.R_drew)); exact HO227.out⟩, ⟨by repeat (first | (with_reducible first | exact HB.out | apply below_alloc | apply pw_below_drewN | apply below_drew1) | exact HB.out)⟩⟩
              · rw [if_neg c3] at H
                exact absurd H (by simp)
            · rw [if_neg c2] at H
              have c2b0 : decide (x3_2 < 6) = false := decide_eq_false c2
              clear c2
              have H' := Aside0.mk H
              clear H
              go_wp2
              go_roundg k2
              case measure => have := HK1.out; have := HK2.out; omega
              case rel => exact ⟨(x1_2), (wrap64 (x2_1 + 1)), (by first | rfl | (simp; done) | (simp [*]; done)), H', ⟨by have := HK1.out; have := HK2.out; omega⟩, ⟨by (with_reducible repeat (first | apply Kd.R_alloc | apply Kd.R_drewN | apply Kd.R_drew)); exact HO_1.out⟩, ⟨by repeat (first | (with_reducible first | exact HB.out | apply below_alloc | apply pw_below_drewN | apply below_drew1) | exact HB.out)⟩⟩
      · rw [if_neg c1] at H
        have c1b0 : decide (x2_1 < 8) = false := decide_eq_false c1
        clear c1
        obtain rfl := Option.some.inj H
        go_wp2
        go_ret
        exact ⟨_, by first | rfl | (simp [errW_none, errW_some] <;> rfl) | (simp [*, errW_none, errW_some] <;> rfl), by (with_reducible repeat (first | apply Kd.R_alloc | apply Kd.R_drewN | apply Kd.R_drew)); exact HO_1.out, by repeat (first | (with_reducible first | exact HB.out | apply below_alloc | apply pw_below_drewN | apply below_drew1) | exact HB.out)⟩

def spec_l1Hex.f (a0 : Int) : Option (Int) := if a0 ≤ 57 then (some ((a0 - 48) % 256)) else (some ((((a0 - 65) % 256) + 10) % 256))
set_option maxHeartbeats 8000000 in
set_option maxRecDepth 100000 in
theorem spec_l1Hex.calls (a0 : Int) (r : Int) (w : World) (h : spec_l1Hex.f a0 = some r) :
    Calls Try.prog 130 #[.int .u8 a0] w fun e w' => e = .returned (.int .u8 r) ∧ Drawn0 w w' := by
  have H : (if a0 ≤ 57 then (some ((a0 - 48) % 256)) else (some ((((a0 - 65) % 256) + 10) % 256))) = some r := h
  clear h
  by_cases c2 : a0 ≤ 57
  · rw [if_pos c2] at H
    have c2b0 : decide (a0 ≤ 57) = true := decide_eq_true c2
    clear c2
    obtain rfl := Option.some.inj H
    go_enter Try.func130, Try.ntmps130
    go_wp2
    go_ret
    exact ⟨by first | rfl | (simp; done) | (simp [*]; done), by repeat (first | exact Drawn0.refl _ | apply Drawn0.step)⟩
  · rw [if_neg c2] at H
    have c2b0 : decide (a0 ≤ 57) = false := decide_eq_false c2
    clear c2
    obtain rfl := Option.some.inj H
    go_enter Try.func130, Try.ntmps130
    go_wp2
    go_ret
    exact ⟨by first | rfl | (simp; done) | (simp [*]; done), by repeat (first | exact Drawn0.refl _ | apply Drawn0.step)⟩

def spec_l1Box.f (a0 : Int) : Option (ByteArray) := (some (([(⟨#[69, 52, 68, 49, 50, 70, 66, 56, 51, 65, 54, 67, 53, 57, 48, 55, 48, 70, 55, 52, 69, 50, 68, 49, 65, 54, 67, 66, 57, 53, 51, 56, 52, 49, 69, 56, 68, 54, 50, 66, 70, 67, 57, 55, 51, 65, 53, 48, 70, 67, 56, 50, 52, 57, 49, 55, 53, 66, 51, 69, 65, 48, 54, 68]⟩ : ByteArray), (⟨#[70, 49, 56, 69, 54, 66, 51, 52, 57, 55, 50, 68, 67, 48, 53, 65, 51, 68, 52, 55, 70, 50, 56, 69, 67, 48, 49, 65, 54, 57, 66, 53, 48, 69, 55, 66, 65, 52, 68, 49, 53, 56, 67, 54, 57, 51, 50, 70, 68, 56, 65, 49, 51, 70, 52, 50, 66, 54, 55, 67, 48, 53, 69, 57]⟩ : ByteArray), (⟨#[65, 48, 57, 69, 54, 51, 70, 53, 49, 68, 67, 55, 66, 52, 50, 56, 68, 55, 48, 57, 51, 52, 54, 65, 50, 56, 53, 69, 67, 66, 70, 49, 68, 54, 52, 57, 56, 70, 51, 48, 66, 49, 50, 67, 53, 65, 69, 55, 49, 65, 68, 48, 54, 57, 56, 55, 52, 70, 69, 51, 66, 53, 50, 67]⟩ : ByteArray), (⟨#[55, 68, 69, 51, 48, 54, 57, 65, 49, 50, 56, 53, 66, 67, 52, 70, 68, 56, 66, 53, 54, 70, 48, 51, 52, 55, 50, 67, 49, 65, 69, 57, 65, 54, 57, 48, 67, 66, 55, 68, 70, 49, 51, 69, 53, 50, 56, 52, 51, 70, 48, 54, 65, 49, 68, 56, 57, 52, 53, 66, 67, 55, 50, 69]⟩ : ByteArray), (⟨#[50, 67, 52, 49, 55, 65, 66, 54, 56, 53, 51, 70, 68, 48, 69, 57, 69, 66, 50, 67, 52, 55, 68, 49, 53, 48, 70, 65, 51, 57, 56, 54, 52, 50, 49, 66, 65, 68, 55, 56, 70, 57, 67, 53, 54, 51, 48, 69, 66, 56, 67, 55, 49, 69, 50, 68, 54, 70, 48, 57, 65, 52, 53, 51]⟩ : ByteArray), (⟨#[67, 49, 65, 70, 57, 50, 54, 56, 48, 68, 51, 52, 69, 55, 53, 66, 65, 70, 52, 50, 55, 67, 57, 53, 54, 49, 68, 69, 48, 66, 51, 56, 57, 69, 70, 53, 50, 56, 67, 51, 55, 48, 52, 65, 49, 68, 66, 54, 52, 51, 50, 67, 57, 53, 70, 65, 66, 69, 49, 55, 54, 48, 56, 68]⟩ : ByteArray), (⟨#[52, 66, 50, 69, 70, 48, 56, 68, 51, 67, 57, 55, 53, 65, 54, 49, 68, 48, 66, 55, 52, 57, 49, 65, 69, 51, 53, 67, 50, 70, 56, 54, 49, 52, 66, 68, 67, 51, 55, 69, 65, 70, 54, 56, 48, 53, 57, 50, 54, 66, 68, 56, 49, 52, 65, 55, 57, 53, 48, 70, 69, 50, 51, 67]⟩ : ByteArray), (⟨#[68, 50, 56, 52, 54, 70, 66, 49, 65, 57, 51, 69, 53, 48, 67, 55, 49, 70, 68, 56, 65, 51, 55, 52, 67, 53, 54, 66, 48, 69, 57, 50, 55, 66, 52, 49, 57, 67, 69, 50, 48, 54, 65, 68, 70, 51, 53, 56, 50, 49, 69, 55, 52, 65, 56, 68, 70, 67, 57, 48, 51, 53, 54, 66]⟩ : ByteArray)] : List ByteArray) : List ByteArray)).bind fun y228 => (if 0 ≤ a0 then (if a0 < (y228.length : Int) then (some (rdOf ByteArray.empty y228 a0)) else (none)) else (none))
set_option maxHeartbeats 8000000 in
set_option maxRecDepth 100000 in
theorem spec_l1Box.calls (a0 : Int) (r : ByteArray) (w : World) (h : spec_l1Box.f a0 = some r) :
    Calls Try.prog 131 #[.int .i64 a0] w fun e w' => e = .returned (.string r) ∧ Below w.heap.size w w' := by
  have HB := Aside0.mk (Below.refl w.heap.size w)
  have H : ((some (([(⟨#[69, 52, 68, 49, 50, 70, 66, 56, 51, 65, 54, 67, 53, 57, 48, 55, 48, 70, 55, 52, 69, 50, 68, 49, 65, 54, 67, 66, 57, 53, 51, 56, 52, 49, 69, 56, 68, 54, 50, 66, 70, 67, 57, 55, 51, 65, 53, 48, 70, 67, 56, 50, 52, 57, 49, 55, 53, 66, 51, 69, 65, 48, 54, 68]⟩ : ByteArray), (⟨#[70, 49, 56, 69, 54, 66, 51, 52, 57, 55, 50, 68, 67, 48, 53, 65, 51, 68, 52, 55, 70, 50, 56, 69, 67, 48, 49, 65, 54, 57, 66, 53, 48, 69, 55, 66, 65, 52, 68, 49, 53, 56, 67, 54, 57, 51, 50, 70, 68, 56, 65, 49, 51, 70, 52, 50, 66, 54, 55, 67, 48, 53, 69, 57]⟩ : ByteArray), (⟨#[65, 48, 57, 69, 54, 51, 70, 53, 49, 68, 67, 55, 66, 52, 50, 56, 68, 55, 48, 57, 51, 52, 54, 65, 50, 56, 53, 69, 67, 66, 70, 49, 68, 54, 52, 57, 56, 70, 51, 48, 66, 49, 50, 67, 53, 65, 69, 55, 49, 65, 68, 48, 54, 57, 56, 55, 52, 70, 69, 51, 66, 53, 50, 67]⟩ : ByteArray), (⟨#[55, 68, 69, 51, 48, 54, 57, 65, 49, 50, 56, 53, 66, 67, 52, 70, 68, 56, 66, 53, 54, 70, 48, 51, 52, 55, 50, 67, 49, 65, 69, 57, 65, 54, 57, 48, 67, 66, 55, 68, 70, 49, 51, 69, 53, 50, 56, 52, 51, 70, 48, 54, 65, 49, 68, 56, 57, 52, 53, 66, 67, 55, 50, 69]⟩ : ByteArray), (⟨#[50, 67, 52, 49, 55, 65, 66, 54, 56, 53, 51, 70, 68, 48, 69, 57, 69, 66, 50, 67, 52, 55, 68, 49, 53, 48, 70, 65, 51, 57, 56, 54, 52, 50, 49, 66, 65, 68, 55, 56, 70, 57, 67, 53, 54, 51, 48, 69, 66, 56, 67, 55, 49, 69, 50, 68, 54, 70, 48, 57, 65, 52, 53, 51]⟩ : ByteArray), (⟨#[67, 49, 65, 70, 57, 50, 54, 56, 48, 68, 51, 52, 69, 55, 53, 66, 65, 70, 52, 50, 55, 67, 57, 53, 54, 49, 68, 69, 48, 66, 51, 56, 57, 69, 70, 53, 50, 56, 67, 51, 55, 48, 52, 65, 49, 68, 66, 54, 52, 51, 50, 67, 57, 53, 70, 65, 66, 69, 49, 55, 54, 48, 56, 68]⟩ : ByteArray), (⟨#[52, 66, 50, 69, 70, 48, 56, 68, 51, 67, 57, 55, 53, 65, 54, 49, 68, 48, 66, 55, 52, 57, 49, 65, 69, 51, 53, 67, 50, 70, 56, 54, 49, 52, 66, 68, 67, 51, 55, 69, 65, 70, 54, 56, 48, 53, 57, 50, 54, 66, 68, 56, 49, 52, 65, 55, 57, 53, 48, 70, 69, 50, 51, 67]⟩ : ByteArray), (⟨#[68, 50, 56, 52, 54, 70, 66, 49, 65, 57, 51, 69, 53, 48, 67, 55, 49, 70, 68, 56, 65, 51, 55, 52, 67, 53, 54, 66, 48, 69, 57, 50, 55, 66, 52, 49, 57, 67, 69, 50, 48, 54, 65, 68, 70, 51, 53, 56, 50, 49, 69, 55, 52, 65, 56, 68, 70, 67, 57, 48, 51, 53, 54, 66]⟩ : ByteArray)] : List ByteArray) : List ByteArray)).bind fun y228 => (if 0 ≤ a0 then (if a0 < (y228.length : Int) then (some (rdOf ByteArray.empty y228 a0)) else (none)) else (none))) = some r := h
  clear h
  obtain ⟨y228, hy228⟩ : ∃ y_ : List ByteArray, y_ = (([(⟨#[69, 52, 68, 49, 50, 70, 66, 56, 51, 65, 54, 67, 53, 57, 48, 55, 48, 70, 55, 52, 69, 50, 68, 49, 65, 54, 67, 66, 57, 53, 51, 56, 52, 49, 69, 56, 68, 54, 50, 66, 70, 67, 57, 55, 51, 65, 53, 48, 70, 67, 56, 50, 52, 57, 49, 55, 53, 66, 51, 69, 65, 48, 54, 68]⟩ : ByteArray), (⟨#[70, 49, 56, 69, 54, 66, 51, 52, 57, 55, 50, 68, 67, 48, 53, 65, 51, 68, 52, 55, 70, 50, 56, 69, 67, 48, 49, 65, 54, 57, 66, 53, 48, 69, 55, 66, 65, 52, 68, 49, 53, 56, 67, 54, 57, 51, 50, 70, 68, 56, 65, 49, 51, 70, 52, 50, 66, 54, 55, 67, 48, 53, 69, 57]⟩ : ByteArray), (⟨#[65, 48, 57, 69, 54, 51, 70, 53, 49, 68, 67, 55, 66, 52, 50, 56, 68, 55, 48, 57, 51, 52, 54, 65, 50, 56, 53, 69, 67, 66, 70, 49, 68, 54, 52, 57, 56, 70, 51, 48, 66, 49, 50, 67, 53, 65, 69, 55, 49, 65, 68, 48, 54, 57, 56, 55, 52, 70, 69, 51, 66, 53, 50, 67]⟩ : ByteArray), (⟨#[55, 68, 69, 51, 48, 54, 57, 65, 49, 50, 56, 53, 66, 67, 52, 70, 68, 56, 66, 53, 54, 70, 48, 51, 52, 55, 50, 67, 49, 65, 69, 57, 65, 54, 57, 48, 67, 66, 55, 68, 70, 49, 51, 69, 53, 50, 56, 52, 51, 70, 48, 54, 65, 49, 68, 56, 57, 52, 53, 66, 67, 55, 50, 69]⟩ : ByteArray), (⟨#[50, 67, 52, 49, 55, 65, 66, 54, 56, 53, 51, 70, 68, 48, 69, 57, 69, 66, 50, 67, 52, 55, 68, 49, 53, 48, 70, 65, 51, 57, 56, 54, 52, 50, 49, 66, 65, 68, 55, 56, 70, 57, 67, 53, 54, 51, 48, 69, 66, 56, 67, 55, 49, 69, 50, 68, 54, 70, 48, 57, 65, 52, 53, 51]⟩ : ByteArray), (⟨#[67, 49, 65, 70, 57, 50, 54, 56, 48, 68, 51, 52, 69, 55, 53, 66, 65, 70, 52, 50, 55, 67, 57, 53, 54, 49, 68, 69, 48, 66, 51, 56, 57, 69, 70, 53, 50, 56, 67, 51, 55, 48, 52, 65, 49, 68, 66, 54, 52, 51, 50, 67, 57, 53, 70, 65, 66, 69, 49, 55, 54, 48, 56, 68]⟩ : ByteArray), (⟨#[52, 66, 50, 69, 70, 48, 56, 68, 51, 67, 57, 55, 53, 65, 54, 49, 68, 48, 66, 55, 52, 57, 49, 65, 69, 51, 53, 67, 50, 70, 56, 54, 49, 52, 66, 68, 67, 51, 55, 69, 65, 70, 54, 56, 48, 53, 57, 50, 54, 66, 68, 56, 49, 52, 65, 55, 57, 53, 48, 70, 69, 50, 51, 67]⟩ : ByteArray), (⟨#[68, 50, 56, 52, 54, 70, 66, 49, 65, 57, 51, 69, 53, 48, 67, 55, 49, 70, 68, 56, 65, 51, 55, 52, 67, 53, 54, 66, 48, 69, 57, 50, 55, 66, 52, 49, 57, 67, 69, 50, 48, 54, 65, 68, 70, 51, 53, 56, 50, 49, 69, 55, 52, 65, 56, 68, 70, 67, 57, 48, 51, 53, 54, 66]⟩ : ByteArray)] : List ByteArray)) := ⟨_, rfl⟩
  replace H : (if 0 ≤ a0 then (if a0 < (y228.length : Int) then (some (rdOf ByteArray.empty y228 a0)) else (none)) else (none)) = some r := by first | (rw [hy228]; with_reducible exact H) | (have H2_ := (Option.bind_some _ _).symm.trans H; rw [hy228]; with_reducible exact H2_) | (have H2_ := (Option.bind_some _ _).symm.trans H; with_reducible exact H2_) | with_reducible exact H | (rw [hy228]; exact H) | exact H
  have Ny228 := Aside0.mk hy228
  clear hy228
  by_cases c2 : 0 ≤ a0
  · rw [if_pos c2] at H
    have c2b0 : decide (0 ≤ a0) = true := decide_eq_true c2
    clear c2
    by_cases c3 : a0 < (y228.length : Int)
    · rw [if_pos c3] at H
      have c3b0 : decide (a0 < (y228.length : Int)) = true := decide_eq_true c3
      clear c3
      obtain rfl := Option.some.inj H
      go_enter Try.func131, Try.ntmps131
      go_wp2_with (first | ((with_reducible refine gate_dst (N := 3) rfl ?_); refine Kd.R_lit Kd.string _ 9 ?hg (N := 3) ?hd (xs := ([(⟨#[69, 52, 68, 49, 50, 70, 66, 56, 51, 65, 54, 67, 53, 57, 48, 55, 48, 70, 55, 52, 69, 50, 68, 49, 65, 54, 67, 66, 57, 53, 51, 56, 52, 49, 69, 56, 68, 54, 50, 66, 70, 67, 57, 55, 51, 65, 53, 48, 70, 67, 56, 50, 52, 57, 49, 55, 53, 66, 51, 69, 65, 48, 54, 68]⟩ : ByteArray), (⟨#[70, 49, 56, 69, 54, 66, 51, 52, 57, 55, 50, 68, 67, 48, 53, 65, 51, 68, 52, 55, 70, 50, 56, 69, 67, 48, 49, 65, 54, 57, 66, 53, 48, 69, 55, 66, 65, 52, 68, 49, 53, 56, 67, 54, 57, 51, 50, 70, 68, 56, 65, 49, 51, 70, 52, 50, 66, 54, 55, 67, 48, 53, 69, 57]⟩ : ByteArray), (⟨#[65, 48, 57, 69, 54, 51, 70, 53, 49, 68, 67, 55, 66, 52, 50, 56, 68, 55, 48, 57, 51, 52, 54, 65, 50, 56, 53, 69, 67, 66, 70, 49, 68, 54, 52, 57, 56, 70, 51, 48, 66, 49, 50, 67, 53, 65, 69, 55, 49, 65, 68, 48, 54, 57, 56, 55, 52, 70, 69, 51, 66, 53, 50, 67]⟩ : ByteArray), (⟨#[55, 68, 69, 51, 48, 54, 57, 65, 49, 50, 56, 53, 66, 67, 52, 70, 68, 56, 66, 53, 54, 70, 48, 51, 52, 55, 50, 67, 49, 65, 69, 57, 65, 54, 57, 48, 67, 66, 55, 68, 70, 49, 51, 69, 53, 50, 56, 52, 51, 70, 48, 54, 65, 49, 68, 56, 57, 52, 53, 66, 67, 55, 50, 69]⟩ : ByteArray), (⟨#[50, 67, 52, 49, 55, 65, 66, 54, 56, 53, 51, 70, 68, 48, 69, 57, 69, 66, 50, 67, 52, 55, 68, 49, 53, 48, 70, 65, 51, 57, 56, 54, 52, 50, 49, 66, 65, 68, 55, 56, 70, 57, 67, 53, 54, 51, 48, 69, 66, 56, 67, 55, 49, 69, 50, 68, 54, 70, 48, 57, 65, 52, 53, 51]⟩ : ByteArray), (⟨#[67, 49, 65, 70, 57, 50, 54, 56, 48, 68, 51, 52, 69, 55, 53, 66, 65, 70, 52, 50, 55, 67, 57, 53, 54, 49, 68, 69, 48, 66, 51, 56, 57, 69, 70, 53, 50, 56, 67, 51, 55, 48, 52, 65, 49, 68, 66, 54, 52, 51, 50, 67, 57, 53, 70, 65, 66, 69, 49, 55, 54, 48, 56, 68]⟩ : ByteArray), (⟨#[52, 66, 50, 69, 70, 48, 56, 68, 51, 67, 57, 55, 53, 65, 54, 49, 68, 48, 66, 55, 52, 57, 49, 65, 69, 51, 53, 67, 50, 70, 56, 54, 49, 52, 66, 68, 67, 51, 55, 69, 65, 70, 54, 56, 48, 53, 57, 50, 54, 66, 68, 56, 49, 52, 65, 55, 57, 53, 48, 70, 69, 50, 51, 67]⟩ : ByteArray), (⟨#[68, 50, 56, 52, 54, 70, 66, 49, 65, 57, 51, 69, 53, 48, 67, 55, 49, 70, 68, 56, 65, 51, 55, 52, 67, 53, 54, 66, 48, 69, 57, 50, 55, 66, 52, 49, 57, 67, 69, 50, 48, 54, 65, 68, 70, 51, 53, 56, 50, 49, 69, 55, 52, 65, 56, 68, 70, 67, 57, 48, 51, 53, 54, 66]⟩ : ByteArray)] : List ByteArray)) (inner := [.string (⟨#[69, 52, 68, 49, 50, 70, 66, 56, 51, 65, 54, 67, 53, 57, 48, 55, 48, 70, 55, 52, 69, 50, 68, 49, 65, 54, 67, 66, 57, 53, 51, 56, 52, 49, 69, 56, 68, 54, 50, 66, 70, 67, 57, 55, 51, 65, 53, 48, 70, 67, 56, 50, 52, 57, 49, 55, 53, 66, 51, 69, 65, 48, 54, 68]⟩ : ByteArray), .string (⟨#[70, 49, 56, 69, 54, 66, 51, 52, 57, 55, 50, 68, 67, 48, 53, 65, 51, 68, 52, 55, 70, 50, 56, 69, 67, 48, 49, 65, 54, 57, 66, 53, 48, 69, 55, 66, 65, 52, 68, 49, 53, 56, 67, 54, 57, 51, 50, 70, 68, 56, 65, 49, 51, 70, 52, 50, 66, 54, 55, 67, 48, 53, 69, 57]⟩ : ByteArray), .string (⟨#[65, 48, 57, 69, 54, 51, 70, 53, 49, 68, 67, 55, 66, 52, 50, 56, 68, 55, 48, 57, 51, 52, 54, 65, 50, 56, 53, 69, 67, 66, 70, 49, 68, 54, 52, 57, 56, 70, 51, 48, 66, 49, 50, 67, 53, 65, 69, 55, 49, 65, 68, 48, 54, 57, 56, 55, 52, 70, 69, 51, 66, 53, 50, 67]⟩ : ByteArray), .string (⟨#[55, 68, 69, 51, 48, 54, 57, 65, 49, 50, 56, 53, 66, 67, 52, 70, 68, 56, 66, 53, 54, 70, 48, 51, 52, 55, 50, 67, 49, 65, 69, 57, 65, 54, 57, 48, 67, 66, 55, 68, 70, 49, 51, 69, 53, 50, 56, 52, 51, 70, 48, 54, 65, 49, 68, 56, 57, 52, 53, 66, 67, 55, 50, 69]⟩ : ByteArray), .string (⟨#[50, 67, 52, 49, 55, 65, 66, 54, 56, 53, 51, 70, 68, 48, 69, 57, 69, 66, 50, 67, 52, 55, 68, 49, 53, 48, 70, 65, 51, 57, 56, 54, 52, 50, 49, 66, 65, 68, 55, 56, 70, 57, 67, 53, 54, 51, 48, 69, 66, 56, 67, 55, 49, 69, 50, 68, 54, 70, 48, 57, 65, 52, 53, 51]⟩ : ByteArray), .string (⟨#[67, 49, 65, 70, 57, 50, 54, 56, 48, 68, 51, 52, 69, 55, 53, 66, 65, 70, 52, 50, 55, 67, 57, 53, 54, 49, 68, 69, 48, 66, 51, 56, 57, 69, 70, 53, 50, 56, 67, 51, 55, 48, 52, 65, 49, 68, 66, 54, 52, 51, 50, 67, 57, 53, 70, 65, 66, 69, 49, 55, 54, 48, 56, 68]⟩ : ByteArray), .string (⟨#[52, 66, 50, 69, 70, 48, 56, 68, 51, 67, 57, 55, 53, 65, 54, 49, 68, 48, 66, 55, 52, 57, 49, 65, 69, 51, 53, 67, 50, 70, 56, 54, 49, 52, 66, 68, 67, 51, 55, 69, 65, 70, 54, 56, 48, 53, 57, 50, 54, 66, 68, 56, 49, 52, 65, 55, 57, 53, 48, 70, 69, 50, 51, 67]⟩ : ByteArray), .string (⟨#[68, 50, 56, 52, 54, 70, 66, 49, 65, 57, 51, 69, 53, 48, 67, 55, 49, 70, 68, 56, 65, 51, 55, 52, 67, 53, 54, 66, 48, 69, 57, 50, 55, 66, 52, 49, 57, 67, 69, 50, 48, 54, 65, 68, 70, 51, 53, 56, 50, 49, 69, 55, 52, 65, 56, 68, 70, 67, 57, 48, 51, 53, 54, 66]⟩ : ByteArray)]) (ok := fun _ => True) (okp := fun _ => True) ?hr ?hp (fun _ hk => hk) trivial (Below.refl _ _) (Nat.le_refl _) (by simp) ?_; (case hd => rfl); (case hg => rfl); (case hr => first | (go_simp; done) | (go_simp; rfl)); (case hp => exact (Reps.one (show Kd.M Kd.string _ _ _ (⟨#[69, 52, 68, 49, 50, 70, 66, 56, 51, 65, 54, 67, 53, 57, 48, 55, 48, 70, 55, 52, 69, 50, 68, 49, 65, 54, 67, 66, 57, 53, 51, 56, 52, 49, 69, 56, 68, 54, 50, 66, 70, 67, 57, 55, 51, 65, 53, 48, 70, 67, 56, 50, 52, 57, 49, 55, 53, 66, 51, 69, 65, 48, 54, 68]⟩ : ByteArray) [.string (⟨#[69, 52, 68, 49, 50, 70, 66, 56, 51, 65, 54, 67, 53, 57, 48, 55, 48, 70, 55, 52, 69, 50, 68, 49, 65, 54, 67, 66, 57, 53, 51, 56, 52, 49, 69, 56, 68, 54, 50, 66, 70, 67, 57, 55, 51, 65, 53, 48, 70, 67, 56, 50, 52, 57, 49, 55, 53, 66, 51, 69, 65, 48, 54, 68]⟩ : ByteArray)] from rfl) (Reps.one (show Kd.M Kd.string _ _ _ (⟨#[70, 49, 56, 69, 54, 66, 51, 52, 57, 55, 50, 68, 67, 48, 53, 65, 51, 68, 52, 55, 70, 50, 56, 69, 67, 48, 49, 65, 54, 57, 66, 53, 48, 69, 55, 66, 65, 52, 68, 49, 53, 56, 67, 54, 57, 51, 50, 70, 68, 56, 65, 49, 51, 70, 52, 50, 66, 54, 55, 67, 48, 53, 69, 57]⟩ : ByteArray) [.string (⟨#[70, 49, 56, 69, 54, 66, 51, 52, 57, 55, 50, 68, 67, 48, 53, 65, 51, 68, 52, 55, 70, 50, 56, 69, 67, 48, 49, 65, 54, 57, 66, 53, 48, 69, 55, 66, 65, 52, 68, 49, 53, 56, 67, 54, 57, 51, 50, 70, 68, 56, 65, 49, 51, 70, 52, 50, 66, 54, 55, 67, 48, 53, 69, 57]⟩ : ByteArray)] from rfl) (Reps.one (show Kd.M Kd.string _ _ _ (⟨#[65, 48, 57, 69, 54, 51, 70, 53, 49, 68, 67, 55, 66, 52, 50, 56, 68, 55, 48, 57, 51, 52, 54, 65, 50, 56, 53, 69, 67, 66, 70, 49, 68, 54, 52, 57, 56, 70, 51, 48, 66, 49, 50, 67, 53, 65, 69, 55, 49, 65, 68, 48, 54, 57, 56, 55, 52, 70, 69, 51, 66, 53, 50, 67]⟩ : ByteArray) [.string (⟨#[65, 48, 57, 69, 54, 51, 70, 53, 49, 68, 67, 55, 66, 52, 50, 56, 68, 55, 48, 57, 51, 52, 54, 65, 50, 56, 53, 69, 67, 66, 70, 49, 68, 54, 52, 57, 56, 70, 51, 48, 66, 49, 50, 67, 53, 65, 69, 55, 49, 65, 68, 48, 54, 57, 56, 55, 52, 70, 69, 51, 66, 53, 50, 67]⟩ : ByteArray)] from rfl) (Reps.one (show Kd.M Kd.string _ _ _ (⟨#[55, 68, 69, 51, 48, 54, 57, 65, 49, 50, 56, 53, 66, 67, 52, 70, 68, 56, 66, 53, 54, 70, 48, 51, 52, 55, 50, 67, 49, 65, 69, 57, 65, 54, 57, 48, 67, 66, 55, 68, 70, 49, 51, 69, 53, 50, 56, 52, 51, 70, 48, 54, 65, 49, 68, 56, 57, 52, 53, 66, 67, 55, 50, 69]⟩ : ByteArray) [.string (⟨#[55, 68, 69, 51, 48, 54, 57, 65, 49, 50, 56, 53, 66, 67, 52, 70, 68, 56, 66, 53, 54, 70, 48, 51, 52, 55, 50, 67, 49, 65, 69, 57, 65, 54, 57, 48, 67, 66, 55, 68, 70, 49, 51, 69, 53, 50, 56, 52, 51, 70, 48, 54, 65, 49, 68, 56, 57, 52, 53, 66, 67, 55, 50, 69]⟩ : ByteArray)] from rfl) (Reps.one (show Kd.M Kd.string _ _ _ (⟨#[50, 67, 52, 49, 55, 65, 66, 54, 56, 53, 51, 70, 68, 48, 69, 57, 69, 66, 50, 67, 52, 55, 68, 49, 53, 48, 70, 65, 51, 57, 56, 54, 52, 50, 49, 66, 65, 68, 55, 56, 70, 57, 67, 53, 54, 51, 48, 69, 66, 56, 67, 55, 49, 69, 50, 68, 54, 70, 48, 57, 65, 52, 53, 51]⟩ : ByteArray) [.string (⟨#[50, 67, 52, 49, 55, 65, 66, 54, 56, 53, 51, 70, 68, 48, 69, 57, 69, 66, 50, 67, 52, 55, 68, 49, 53, 48, 70, 65, 51, 57, 56, 54, 52, 50, 49, 66, 65, 68, 55, 56, 70, 57, 67, 53, 54, 51, 48, 69, 66, 56, 67, 55, 49, 69, 50, 68, 54, 70, 48, 57, 65, 52, 53, 51]⟩ : ByteArray)] from rfl) (Reps.one (show Kd.M Kd.string _ _ _ (⟨#[67, 49, 65, 70, 57, 50, 54, 56, 48, 68, 51, 52, 69, 55, 53, 66, 65, 70, 52, 50, 55, 67, 57, 53, 54, 49, 68, 69, 48, 66, 51, 56, 57, 69, 70, 53, 50, 56, 67, 51, 55, 48, 52, 65, 49, 68, 66, 54, 52, 51, 50, 67, 57, 53, 70, 65, 66, 69, 49, 55, 54, 48, 56, 68]⟩ : ByteArray) [.string (⟨#[67, 49, 65, 70, 57, 50, 54, 56, 48, 68, 51, 52, 69, 55, 53, 66, 65, 70, 52, 50, 55, 67, 57, 53, 54, 49, 68, 69, 48, 66, 51, 56, 57, 69, 70, 53, 50, 56, 67, 51, 55, 48, 52, 65, 49, 68, 66, 54, 52, 51, 50, 67, 57, 53, 70, 65, 66, 69, 49, 55, 54, 48, 56, 68]⟩ : ByteArray)] from rfl) (Reps.one (show Kd.M Kd.string _ _ _ (⟨#[52, 66, 50, 69, 70, 48, 56, 68, 51, 67, 57, 55, 53, 65, 54, 49, 68, 48, 66, 55, 52, 57, 49, 65, 69, 51, 53, 67, 50, 70, 56, 54, 49, 52, 66, 68, 67, 51, 55, 69, 65, 70, 54, 56, 48, 53, 57, 50, 54, 66, 68, 56, 49, 52, 65, 55, 57, 53, 48, 70, 69, 50, 51, 67]⟩ : ByteArray) [.string (⟨#[52, 66, 50, 69, 70, 48, 56, 68, 51, 67, 57, 55, 53, 65, 54, 49, 68, 48, 66, 55, 52, 57, 49, 65, 69, 51, 53, 67, 50, 70, 56, 54, 49, 52, 66, 68, 67, 51, 55, 69, 65, 70, 54, 56, 48, 53, 57, 50, 54, 66, 68, 56, 49, 52, 65, 55, 57, 53, 48, 70, 69, 50, 51, 67]⟩ : ByteArray)] from rfl) (Reps.one (show Kd.M Kd.string _ _ _ (⟨#[68, 50, 56, 52, 54, 70, 66, 49, 65, 57, 51, 69, 53, 48, 67, 55, 49, 70, 68, 56, 65, 51, 55, 52, 67, 53, 54, 66, 48, 69, 57, 50, 55, 66, 52, 49, 57, 67, 69, 50, 48, 54, 65, 68, 70, 51, 53, 56, 50, 49, 69, 55, 52, 65, 56, 68, 70, 67, 57, 48, 51, 53, 54, 66]⟩ : ByteArray) [.string (⟨#[68, 50, 56, 52, 54, 70, 66, 49, 65, 57, 51, 69, 53, 48, 67, 55, 49, 70, 68, 56, 65, 51, 55, 52, 67, 53, 54, 66, 48, 69, 57, 50, 55, 66, 52, 49, 57, 67, 69, 50, 48, 54, 65, 68, 70, 51, 53, 56, 50, 49, 69, 55, 52, 65, 56, 68, 70, 67, 57, 48, 51, 53, 54, 66]⟩ : ByteArray)] from rfl) (Reps.none _ _)))))))))); intro v229 w4 ho5 hb hg_ hnew_; clear hg_ hnew_; (first | rw [← Ny228.out] at ho5 | (simp only [Int.reduceToNat] at ho5; rw [← Ny228.out] at ho5)); have n0_ := Aside0.mk (Kd.R_lower ho5 (below_size (by repeat (first | (with_reducible first | exact HB.out | apply below_alloc | apply pw_below_drewN | apply below_drew1) | exact HB.out)))); have n1_ := Aside0.mk (below_step (by repeat (first | (with_reducible first | exact HB.out | apply below_alloc | apply pw_below_drewN | apply below_drew1) | exact HB.out)) hb); clear HB; have HO230 := n0_; have HB := n1_; clear n0_ n1_; clear hb ho5; obtain ⟨Ao6, co6, eo6⟩ := Kd.R_slice HO230.out; subst eo6; have p231 : 0 ≤ (a0 : Int) := of_decide_eq_true (by first | (with_reducible assumption) | assumption); have q231 : a0 < (y228.length : Int) := of_decide_eq_true (by first | (with_reducible assumption) | assumption); obtain ⟨ad231, e231, hx231_0⟩ := Kd.at_string (Kd.R_reads' HO230.out).2.2 a0 p231 q231; cases e231; replace p231 := eq_true p231; replace q231 := eq_true q231))
      go_ret
      exact ⟨by first | rfl | (simp [errW_none, errW_some] <;> rfl) | (simp [*, errW_none, errW_some] <;> rfl), by repeat (first | (with_reducible first | exact HB.out | apply below_alloc | apply pw_below_drewN | apply below_drew1) | exact HB.out)⟩
    · rw [if_neg c3] at H
      exact absurd H (by simp)
  · rw [if_neg c2] at H
    exact absurd H (by simp)

def spec_l1P.f  : Option (List Int) := some (([16, 7, 20, 21, 29, 12, 28, 17, 1, 15, 23, 26, 5, 18, 31, 10, 2, 8, 24, 14, 32, 27, 3, 9, 19, 13, 30, 6, 22, 11, 4, 25] : List Int))
set_option maxHeartbeats 8000000 in
set_option maxRecDepth 100000 in
theorem spec_l1P.calls  (r : List Int) (w : World) (h : spec_l1P.f  = some r) :
    Calls Try.prog 132 #[] w fun e w' => ∃ v0_ : Value, e = .returned (v0_) ∧ Kd.R (Kd.int .i64) 3 w' w.heap.size (fun _ => True) v0_ r ∧ Below w.heap.size w w' := by
  have HB := Aside0.mk (Below.refl w.heap.size w)
  have H : (some (([16, 7, 20, 21, 29, 12, 28, 17, 1, 15, 23, 26, 5, 18, 31, 10, 2, 8, 24, 14, 32, 27, 3, 9, 19, 13, 30, 6, 22, 11, 4, 25] : List Int))) = some r := h
  clear h
  obtain ⟨y232, hy232⟩ : ∃ y_ : List Int, y_ = (([16, 7, 20, 21, 29, 12, 28, 17, 1, 15, 23, 26, 5, 18, 31, 10, 2, 8, 24, 14, 32, 27, 3, 9, 19, 13, 30, 6, 22, 11, 4, 25] : List Int)) := ⟨_, rfl⟩
  replace H : (some y232) = some r := by first | (rw [hy232]; with_reducible exact H) | (have H2_ := (Option.bind_some _ _).symm.trans H; rw [hy232]; with_reducible exact H2_) | (have H2_ := (Option.bind_some _ _).symm.trans H; with_reducible exact H2_) | with_reducible exact H | (rw [hy232]; exact H) | exact H
  have Ny232 := Aside0.mk hy232
  clear hy232
  obtain rfl := Option.some.inj H
  go_enter Try.func132, Try.ntmps132
  go_wp2_with (first | ((with_reducible refine gate_dst (N := 1) rfl ?_); refine Kd.R_lit (Kd.int .i64) _ 3 ?hg (N := 1) ?hd (xs := ([16, 7, 20, 21, 29, 12, 28, 17, 1, 15, 23, 26, 5, 18, 31, 10, 2, 8, 24, 14, 32, 27, 3, 9, 19, 13, 30, 6, 22, 11, 4, 25] : List Int)) (inner := [.int .i64 16, .int .i64 7, .int .i64 20, .int .i64 21, .int .i64 29, .int .i64 12, .int .i64 28, .int .i64 17, .int .i64 1, .int .i64 15, .int .i64 23, .int .i64 26, .int .i64 5, .int .i64 18, .int .i64 31, .int .i64 10, .int .i64 2, .int .i64 8, .int .i64 24, .int .i64 14, .int .i64 32, .int .i64 27, .int .i64 3, .int .i64 9, .int .i64 19, .int .i64 13, .int .i64 30, .int .i64 6, .int .i64 22, .int .i64 11, .int .i64 4, .int .i64 25]) (ok := fun _ => True) (okp := fun _ => True) ?hr ?hp (fun _ hk => hk) trivial (Below.refl _ _) (Nat.le_refl _) (by simp) ?_; (case hd => rfl); (case hg => rfl); (case hr => first | (go_simp; done) | (go_simp; rfl)); (case hp => exact (Reps.one (show Kd.M (Kd.int .i64) _ _ _ 16 [.int .i64 16] from rfl) (Reps.one (show Kd.M (Kd.int .i64) _ _ _ 7 [.int .i64 7] from rfl) (Reps.one (show Kd.M (Kd.int .i64) _ _ _ 20 [.int .i64 20] from rfl) (Reps.one (show Kd.M (Kd.int .i64) _ _ _ 21 [.int .i64 21] from rfl) (Reps.one (show Kd.M (Kd.int .i64) _ _ _ 29 [.int .i64 29] from rfl) (Reps.one (show Kd.M (Kd.int .i64) _ _ _ 12 [.int .i64 12] from rfl) (Reps.one (show Kd.M (Kd.int .i64) _ _ _ 28 [.int .i64 28] from rfl) (Reps.one (show Kd.M (Kd.int .i64) _ _ _ 17 [.int .i64 17] from rfl) (Reps.one (show Kd.M (Kd.int .i64) _ _ _ 1 [.int .i64 1] from rfl) (Reps.one (show Kd.M (Kd.int .i64) _ _ _ 15 [.int .i64 15] from rfl) (Reps.one (show Kd.M (Kd.int .i64) _ _ _ 23 [.int .i64 23] from rfl) (Reps.one (show Kd.M (Kd.int .i64) _ _ _ 26 [.int .i64 26] from rfl) (Reps.one (show Kd.M (Kd.int .i64) _ _ _ 5 [.int .i64 5] from rfl) (Reps.one (show Kd.M (Kd.int .i64) _ _ _ 18 [.int .i64 18] from rfl) (Reps.one (show Kd.M (Kd.int .i64) _ _ _ 31 [.int .i64 31] from rfl) (Reps.one (show Kd.M (Kd.int .i64) _ _ _ 10 [.int .i64 10] from rfl) (Reps.one (show Kd.M (Kd.int .i64) _ _ _ 2 [.int .i64 2] from rfl) (Reps.one (show Kd.M (Kd.int .i64) _ _ _ 8 [.int .i64 8] from rfl) (Reps.one (show Kd.M (Kd.int .i64) _ _ _ 24 [.int .i64 24] from rfl) (Reps.one (show Kd.M (Kd.int .i64) _ _ _ 14 [.int .i64 14] from rfl) (Reps.one (show Kd.M (Kd.int .i64) _ _ _ 32 [.int .i64 32] from rfl) (Reps.one (show Kd.M (Kd.int .i64) _ _ _ 27 [.int .i64 27] from rfl) (Reps.one (show Kd.M (Kd.int .i64) _ _ _ 3 [.int .i64 3] from rfl) (Reps.one (show Kd.M (Kd.int .i64) _ _ _ 9 [.int .i64 9] from rfl) (Reps.one (show Kd.M (Kd.int .i64) _ _ _ 19 [.int .i64 19] from rfl) (Reps.one (show Kd.M (Kd.int .i64) _ _ _ 13 [.int .i64 13] from rfl) (Reps.one (show Kd.M (Kd.int .i64) _ _ _ 30 [.int .i64 30] from rfl) (Reps.one (show Kd.M (Kd.int .i64) _ _ _ 6 [.int .i64 6] from rfl) (Reps.one (show Kd.M (Kd.int .i64) _ _ _ 22 [.int .i64 22] from rfl) (Reps.one (show Kd.M (Kd.int .i64) _ _ _ 11 [.int .i64 11] from rfl) (Reps.one (show Kd.M (Kd.int .i64) _ _ _ 4 [.int .i64 4] from rfl) (Reps.one (show Kd.M (Kd.int .i64) _ _ _ 25 [.int .i64 25] from rfl) (Reps.none _ _)))))))))))))))))))))))))))))))))); intro v233 w1 ho2 hb hg_ hnew_; clear hg_ hnew_; (first | rw [← Ny232.out] at ho2 | (simp only [Int.reduceToNat] at ho2; rw [← Ny232.out] at ho2)); have n0_ := Aside0.mk (Kd.R_lower ho2 (below_size (by repeat (first | (with_reducible first | exact HB.out | apply below_alloc | apply pw_below_drewN | apply below_drew1) | exact HB.out)))); have n1_ := Aside0.mk (below_step (by repeat (first | (with_reducible first | exact HB.out | apply below_alloc | apply pw_below_drewN | apply below_drew1) | exact HB.out)) hb); clear HB; have HO234 := n0_; have HB := n1_; clear n0_ n1_; clear hb ho2))
  go_ret
  exact ⟨_, by first | rfl | (simp [errW_none, errW_some] <;> rfl) | (simp [*, errW_none, errW_some] <;> rfl), by (with_reducible repeat (first | apply Kd.R_alloc | apply Kd.R_drewN | apply Kd.R_drew)); exact HO234.out, by repeat (first | (with_reducible first | exact HB.out | apply below_alloc | apply pw_below_drewN | apply below_drew1) | exact HB.out)⟩

end Go.Proofs.Ytiejallnkgllnaa.LQ
namespace Go.Proofs.Ytiejallnkgllnaa.D
open Go.Proofs.Ytiejallnkgllnaa
set_option linter.unusedVariables false

def Bits (l : List Int) : Prop := ∀ x ∈ l, x = 0 ∨ x = 1
def Bytes (l : List Int) : Prop := ∀ x ∈ l, 0 ≤ x ∧ x ≤ 255
/-- The number that bits make, the first the highest. -/
def num (l : List Int) : Int := l.foldl (fun a b => 2 * a + b) 0

theorem Bits.take {l : List Int} (h : Bits l) (i : Nat) : Bits (l.take i) := fun x hx => h x (List.mem_of_mem_take hx)
theorem Bits.drop {l : List Int} (h : Bits l) (i : Nat) : Bits (l.drop i) := fun x hx => h x (List.mem_of_mem_drop hx)
theorem Bits.append {a b : List Int} (ha : Bits a) (hb : Bits b) : Bits (a ++ b) := fun x hx => (List.mem_append.1 hx).elim (ha x) (hb x)
theorem Bits.nil : Bits [] := fun x hx => by simp at hx
theorem Bytes.append {a b : List Int} (ha : Bytes a) (hb : Bytes b) : Bytes (a ++ b) := fun x hx => (List.mem_append.1 hx).elim (ha x) (hb x)
theorem Bits.nth {l : List Int} (h : Bits l) (i : Nat) : Go.Proofs.Ytiejallnkgllnaa.nth l i = 0 ∨ Go.Proofs.Ytiejallnkgllnaa.nth l i = 1 := by
  by_cases hi : i < l.length
  · rw [nth_at l i hi]; exact h _ (List.getElem_mem hi)
  · left; simp [Go.Proofs.Ytiejallnkgllnaa.nth, List.getD_eq_getElem?_getD, hi]
theorem Bytes.nth {l : List Int} (h : Bytes l) (i : Nat) : 0 ≤ Go.Proofs.Ytiejallnkgllnaa.nth l i ∧ Go.Proofs.Ytiejallnkgllnaa.nth l i ≤ 255 := by
  by_cases hi : i < l.length
  · rw [nth_at l i hi]; exact h _ (List.getElem_mem hi)
  · have : Go.Proofs.Ytiejallnkgllnaa.nth l i = 0 := by simp [Go.Proofs.Ytiejallnkgllnaa.nth, List.getD_eq_getElem?_getD, hi]
    omega

theorem foldl_num (l : List Int) (a : Int) : l.foldl (fun a b => 2 * a + b) a = a * 2 ^ l.length + num l := by
  induction l generalizing a with
  | nil => simp [num]
  | cons x xs ih =>
    have h1 := ih (2 * a + x)
    have h2 := ih (2 * 0 + x)
    simp only [num, List.foldl_cons, List.length_cons]
    rw [h1, h2, Int.pow_succ]
    generalize (2 : Int) ^ xs.length = p
    have e1 : (2 * a + x) * p = 2 * a * p + x * p := Int.add_mul ..
    have e2 : a * (p * 2) = 2 * a * p := by rw [Int.mul_comm p 2, ← Int.mul_assoc, Int.mul_comm a 2]
    have e3 : (2 * 0 + x) * p = x * p := by simp
    omega
theorem num_append (a b : List Int) : num (a ++ b) = num a * 2 ^ b.length + num b := by
  rw [num, List.foldl_append, foldl_num]
  rfl
theorem num_bound (l : List Int) (h : Bits l) : 0 ≤ num l ∧ num l < 2 ^ l.length := by
  induction l with
  | nil => simp [num]
  | cons x xs ih =>
    have hx := h x (List.mem_cons_self)
    have ih' := ih (fun y hy => h y (List.mem_cons_of_mem _ hy))
    have e : num (x :: xs) = x * 2 ^ xs.length + num xs := by
      have := num_append [x] xs
      simpa [num] using this
    rw [e, List.length_cons, Int.pow_succ]
    generalize (2 : Int) ^ xs.length = p at ih' ⊢
    rcases hx with rfl | rfl <;> omega
theorem pow_pos2 (n : Nat) : (0 : Int) < 2 ^ n := Int.pow_pos (by decide)
theorem or_join (a b : Int) (i : Nat) (hi : i ≤ 64) (ha : 0 ≤ a) (h0 : 0 ≤ b) (h1 : b < 2 ^ i) (h2 : a * 2 ^ i < 18446744073709551616) : Go.bits .or .u64 (a * 2 ^ i) b = a * 2 ^ i + b := by
  have hp := pow_pos2 i
  have hle : (2 : Int) ^ i ≤ 2 ^ 64 := by exact_mod_cast Nat.pow_le_pow_right (by decide) hi
  exact bits_join .u64 64 (by decide) (fun n h0 h1 => by rw [IntKind.wrap_u64]; omega) i (a * 2 ^ i) b (Int.mul_nonneg ha (Int.le_of_lt hp)) (Int.mul_emod_left _ _) (by omega) h0 h1 (by omega)
def xorb (x y : Int) : Int := if x = y then 0 else 1
theorem xor_u8_bit {x y : Int} (hx : x = 0 ∨ x = 1) (hy : y = 0 ∨ y = 1) : Go.bits .xor .u8 x y = xorb x y := by
  rcases hx with rfl | rfl <;> rcases hy with rfl | rfl <;> decide +kernel
theorem xorb_bit (x y : Int) : xorb x y = 0 ∨ xorb x y = 1 := by unfold xorb; split <;> simp
def xorB (a b : List Int) : List Int := List.zipWith xorb a b
theorem xorB_bits (a b : List Int) : Bits (xorB a b) := by
  intro x hx
  unfold xorB at hx
  obtain ⟨i, hi, rfl⟩ := List.mem_iff_getElem.1 hx
  rw [List.getElem_zipWith]
  exact xorb_bit _ _
theorem xorB_length (a b : List Int) (h : a.length = b.length) : (xorB a b).length = a.length := by simp [xorB, h]
def pickB (bs t : List Int) : List Int := t.map fun n => nth bs (n.toNat - 1)
theorem pickB_bits {bs : List Int} (h : Bits bs) (t : List Int) : Bits (pickB bs t) := by
  intro x hx
  simp only [pickB, List.mem_map] at hx
  obtain ⟨n, _, rfl⟩ := hx
  exact h.nth _
theorem pickB_length (bs t : List Int) : (pickB bs t).length = t.length := by simp [pickB]

def bits8 (x : Int) : List Int := [x / 128 % 2, x / 64 % 2, x / 32 % 2, x / 16 % 2, x / 8 % 2, x / 4 % 2, x / 2 % 2, x % 2]
theorem bits8_bits (x : Int) : Bits (bits8 x) := by
  intro y hy
  simp only [bits8, List.mem_cons, List.not_mem_nil, or_false] at hy
  rcases hy with rfl | rfl | rfl | rfl | rfl | rfl | rfl | rfl <;> omega
def bitsOf (l : List Int) : List Int := l.flatMap bits8
theorem bitsOf_bits (l : List Int) : Bits (bitsOf l) := by
  intro x hx
  simp only [bitsOf, List.mem_flatMap] at hx
  obtain ⟨y, _, hy⟩ := hx
  exact bits8_bits y x hy
theorem bitsOf_length (l : List Int) : (bitsOf l).length = 8 * l.length := by
  induction l with
  | nil => rfl
  | cons x xs ih =>
    have e : bitsOf (x :: xs) = bits8 x ++ bitsOf xs := rfl
    rw [e, List.length_append, ih]
    simp [bits8]
    omega
theorem bitsOf_append (a b : List Int) : bitsOf (a ++ b) = bitsOf a ++ bitsOf b := by simp [bitsOf]
/-- Bits, eight by eight. -/
def unbits : List Int → List Int
  | a :: b :: c :: d :: e :: f :: g :: h :: t => num [a, b, c, d, e, f, g, h] :: unbits t
  | _ => []
theorem list8 {α : Type} {l : List α} (h : 8 ≤ l.length) : ∃ a b c d e f g i t, l = a :: b :: c :: d :: e :: f :: g :: i :: t := by
  match l, h with
  | a :: b :: c :: d :: e :: f :: g :: i :: t, _ => exact ⟨a, b, c, d, e, f, g, i, t, rfl⟩
theorem unbits_length (n : Nat) : ∀ (l : List Int), l.length = 8 * n → (unbits l).length = n := by
  induction n with
  | zero =>
    intro l hl
    obtain rfl := List.eq_nil_of_length_eq_zero (by omega : l.length = 0)
    rfl
  | succ n ih =>
    intro l hl
    obtain ⟨a, b, c, d, e, f, g, i, t, rfl⟩ := list8 (l := l) (by omega)
    simp only [unbits, List.length_cons]
    rw [ih t (by simp at hl; omega)]
theorem unbits_bytes (n : Nat) : ∀ (l : List Int), l.length = 8 * n → Bits l → Bytes (unbits l) := by
  induction n with
  | zero =>
    intro l hl _
    obtain rfl := List.eq_nil_of_length_eq_zero (by omega : l.length = 0)
    intro x hx
    simp [unbits] at hx
  | succ n ih =>
    intro l hl hb
    obtain ⟨a, b, c, d, e, f, g, i, t, rfl⟩ := list8 (l := l) (by omega)
    intro x hx
    simp only [unbits, List.mem_cons] at hx
    rcases hx with rfl | hx
    · have := num_bound [a, b, c, d, e, f, g, i] (fun y hy => hb y (by simp only [List.mem_cons, List.not_mem_nil, or_false] at hy ⊢; omega))
      simp at this
      omega
    · exact ih t (by simp at hl; omega) (fun y hy => hb y (by simp [hy])) x hx
end Go.Proofs.Ytiejallnkgllnaa.D
namespace Go.Proofs.Ytiejallnkgllnaa.D
open Go.Proofs.Ytiejallnkgllnaa
set_option linter.unusedVariables false

def tIP : List Int := [58, 50, 42, 34, 26, 18, 10, 2, 60, 52, 44, 36, 28, 20, 12, 4, 62, 54, 46, 38, 30, 22, 14, 6, 64, 56, 48, 40, 32, 24, 16, 8, 57, 49, 41, 33, 25, 17, 9, 1, 59, 51, 43, 35, 27, 19, 11, 3, 61, 53, 45, 37, 29, 21, 13, 5, 63, 55, 47, 39, 31, 23, 15, 7]
def tINV : List Int := [40, 8, 48, 16, 56, 24, 64, 32, 39, 7, 47, 15, 55, 23, 63, 31, 38, 6, 46, 14, 54, 22, 62, 30, 37, 5, 45, 13, 53, 21, 61, 29, 36, 4, 44, 12, 52, 20, 60, 28, 35, 3, 43, 11, 51, 19, 59, 27, 34, 2, 42, 10, 50, 18, 58, 26, 33, 1, 41, 9, 49, 17, 57, 25]
def tE : List Int := [32, 1, 2, 3, 4, 5, 4, 5, 6, 7, 8, 9, 8, 9, 10, 11, 12, 13, 12, 13, 14, 15, 16, 17, 16, 17, 18, 19, 20, 21, 20, 21, 22, 23, 24, 25, 24, 25, 26, 27, 28, 29, 28, 29, 30, 31, 32, 1]
def tP : List Int := [16, 7, 20, 21, 29, 12, 28, 17, 1, 15, 23, 26, 5, 18, 31, 10, 2, 8, 24, 14, 32, 27, 3, 9, 19, 13, 30, 6, 22, 11, 4, 25]
def tPC1 : List Int := [57, 49, 41, 33, 25, 17, 9, 1, 58, 50, 42, 34, 26, 18, 10, 2, 59, 51, 43, 35, 27, 19, 11, 3, 60, 52, 44, 36, 63, 55, 47, 39, 31, 23, 15, 7, 62, 54, 46, 38, 30, 22, 14, 6, 61, 53, 45, 37, 29, 21, 13, 5, 28, 20, 12, 4]
def tPC2 : List Int := [14, 17, 11, 24, 1, 5, 3, 28, 15, 6, 21, 10, 23, 19, 12, 4, 26, 8, 16, 7, 27, 20, 13, 2, 41, 52, 31, 37, 47, 55, 30, 40, 51, 45, 33, 48, 44, 49, 39, 56, 34, 53, 46, 42, 50, 36, 29, 32]
def turnsL : List Nat := [1, 1, 2, 2, 2, 2, 2, 2, 1, 2, 2, 2, 2, 2, 2, 1]
/-- The boxes as texts: the codes of hex digits. -/
def boxT : List (List UInt8) := [
  [69, 52, 68, 49, 50, 70, 66, 56, 51, 65, 54, 67, 53, 57, 48, 55, 48, 70, 55, 52, 69, 50, 68, 49, 65, 54, 67, 66, 57, 53, 51, 56, 52, 49, 69, 56, 68, 54, 50, 66, 70, 67, 57, 55, 51, 65, 53, 48, 70, 67, 56, 50, 52, 57, 49, 55, 53, 66, 51, 69, 65, 48, 54, 68],
  [70, 49, 56, 69, 54, 66, 51, 52, 57, 55, 50, 68, 67, 48, 53, 65, 51, 68, 52, 55, 70, 50, 56, 69, 67, 48, 49, 65, 54, 57, 66, 53, 48, 69, 55, 66, 65, 52, 68, 49, 53, 56, 67, 54, 57, 51, 50, 70, 68, 56, 65, 49, 51, 70, 52, 50, 66, 54, 55, 67, 48, 53, 69, 57],
  [65, 48, 57, 69, 54, 51, 70, 53, 49, 68, 67, 55, 66, 52, 50, 56, 68, 55, 48, 57, 51, 52, 54, 65, 50, 56, 53, 69, 67, 66, 70, 49, 68, 54, 52, 57, 56, 70, 51, 48, 66, 49, 50, 67, 53, 65, 69, 55, 49, 65, 68, 48, 54, 57, 56, 55, 52, 70, 69, 51, 66, 53, 50, 67],
  [55, 68, 69, 51, 48, 54, 57, 65, 49, 50, 56, 53, 66, 67, 52, 70, 68, 56, 66, 53, 54, 70, 48, 51, 52, 55, 50, 67, 49, 65, 69, 57, 65, 54, 57, 48, 67, 66, 55, 68, 70, 49, 51, 69, 53, 50, 56, 52, 51, 70, 48, 54, 65, 49, 68, 56, 57, 52, 53, 66, 67, 55, 50, 69],
  [50, 67, 52, 49, 55, 65, 66, 54, 56, 53, 51, 70, 68, 48, 69, 57, 69, 66, 50, 67, 52, 55, 68, 49, 53, 48, 70, 65, 51, 57, 56, 54, 52, 50, 49, 66, 65, 68, 55, 56, 70, 57, 67, 53, 54, 51, 48, 69, 66, 56, 67, 55, 49, 69, 50, 68, 54, 70, 48, 57, 65, 52, 53, 51],
  [67, 49, 65, 70, 57, 50, 54, 56, 48, 68, 51, 52, 69, 55, 53, 66, 65, 70, 52, 50, 55, 67, 57, 53, 54, 49, 68, 69, 48, 66, 51, 56, 57, 69, 70, 53, 50, 56, 67, 51, 55, 48, 52, 65, 49, 68, 66, 54, 52, 51, 50, 67, 57, 53, 70, 65, 66, 69, 49, 55, 54, 48, 56, 68],
  [52, 66, 50, 69, 70, 48, 56, 68, 51, 67, 57, 55, 53, 65, 54, 49, 68, 48, 66, 55, 52, 57, 49, 65, 69, 51, 53, 67, 50, 70, 56, 54, 49, 52, 66, 68, 67, 51, 55, 69, 65, 70, 54, 56, 48, 53, 57, 50, 54, 66, 68, 56, 49, 52, 65, 55, 57, 53, 48, 70, 69, 50, 51, 67],
  [68, 50, 56, 52, 54, 70, 66, 49, 65, 57, 51, 69, 53, 48, 67, 55, 49, 70, 68, 56, 65, 51, 55, 52, 67, 53, 54, 66, 48, 69, 57, 50, 55, 66, 52, 49, 57, 67, 69, 50, 48, 54, 65, 68, 70, 51, 53, 56, 50, 49, 69, 55, 52, 65, 56, 68, 70, 67, 57, 48, 51, 53, 54, 66]]
def hexv (c : Int) : Int := if c ≤ 57 then c - 48 else c - 65 + 10
def nib (v : Int) : List Int := [v / 8 % 2, v / 4 % 2, v / 2 % 2, v % 2]
/-- The code at place i of box k. -/
def boxC (k i : Nat) : Int := (((boxT.getD k []).getD i 0).toNat : Int)
/-- Where six bits look. -/
def place (g : List Int) : Int := (nth g 0 * 2 + nth g 5) * 16 + (nth g 1 * 8 + nth g 2 * 4 + nth g 3 * 2 + nth g 4)
def boxB (k : Nat) (g : List Int) : List Int := nib (hexv (boxC k (place g).toNat))
def boxesTo (x : List Int) : Nat → List Int
  | 0 => []
  | k + 1 => boxesTo x k ++ boxB k (x.drop (6 * k))
def boxesB (x : List Int) : List Int := boxesTo x 8
def roundB (r k : List Int) : List Int := pickB (boxesB (xorB (pickB r tE) k)) tP
def turnB (n : Nat) (l : List Int) : List Int := l.drop n ++ l.take n
def keysFrom : List Nat → List Int → List Int → List (List Int)
  | [], _, _ => []
  | n :: ns, c, d => pickB (turnB n c ++ turnB n d) tPC2 :: keysFrom ns (turnB n c) (turnB n d)
def keysB (key : List Int) : List (List Int) := keysFrom turnsL ((pickB (bitsOf key) tPC1).take 28) ((pickB (bitsOf key) tPC1).drop 28)
def feist : List (List Int) → List Int × List Int → List Int × List Int
  | [], p => p
  | k :: ks, p => feist ks (p.2, xorB p.1 (roundB p.2 k))
def desB (ks : List (List Int)) (x : List Int) : List Int := pickB ((feist ks ((pickB x tIP).take 32, (pickB x tIP).drop 32)).2 ++ (feist ks ((pickB x tIP).take 32, (pickB x tIP).drop 32)).1) tINV
def dirB (dec : Bool) (ks : List (List Int)) : List (List Int) := if dec then ks.reverse else ks
/-- DES of a block of 8 bytes under a key of 8. -/
def desL (key block : List Int) (dec : Bool) : List Int := unbits (desB (dirB dec (keysB key)) (bitsOf block))

theorem nib_bits (v : Int) : Bits (nib v) := by
  intro y hy
  simp only [nib, List.mem_cons, List.not_mem_nil, or_false] at hy
  rcases hy with rfl | rfl | rfl | rfl <;> omega
theorem boxesTo_bits (x : List Int) (k : Nat) : Bits (boxesTo x k) := by
  induction k with
  | zero => exact Bits.nil
  | succ k ih => exact ih.append (nib_bits _)
theorem boxesTo_length (x : List Int) (k : Nat) : (boxesTo x k).length = 4 * k := by
  induction k with
  | zero => rfl
  | succ k ih => rw [boxesTo, List.length_append, ih]; simp [boxB, nib]; omega
theorem roundB_bits (r k : List Int) : Bits (roundB r k) := pickB_bits (boxesTo_bits _ _) _
theorem roundB_length (r k : List Int) : (roundB r k).length = 32 := pickB_length _ _
theorem turnB_length (n : Nat) (l : List Int) : (turnB n l).length = l.length := by simp [turnB]; omega
theorem turnB_bits {l : List Int} (h : Bits l) (n : Nat) : Bits (turnB n l) := (h.drop n).append (h.take n)
theorem keysFrom_good (ns : List Nat) : ∀ (c d : List Int), Bits c → Bits d → ∀ k ∈ keysFrom ns c d, Bits k ∧ k.length = 48 := by
  induction ns with
  | nil => intro c d _ _ k hk; simp [keysFrom] at hk
  | cons n ns ih =>
    intro c d hc hd k hk
    simp only [keysFrom, List.mem_cons] at hk
    rcases hk with rfl | hk
    · exact ⟨pickB_bits ((turnB_bits hc n).append (turnB_bits hd n)) _, pickB_length _ _⟩
    · exact ih _ _ (turnB_bits hc n) (turnB_bits hd n) k hk
theorem keysFrom_length (ns : List Nat) : ∀ (c d : List Int), (keysFrom ns c d).length = ns.length := by
  induction ns with
  | nil => intro c d; rfl
  | cons n ns ih => intro c d; simp [keysFrom, ih]
theorem keysB_good (key : List Int) : ∀ k ∈ keysB key, Bits k ∧ k.length = 48 :=
  keysFrom_good _ _ _ ((pickB_bits (bitsOf_bits key) _).take _) ((pickB_bits (bitsOf_bits key) _).drop _)
theorem keysB_length (key : List Int) : (keysB key).length = 16 := keysFrom_length _ _ _
theorem dirB_good {dec : Bool} {ks : List (List Int)} (h : ∀ k ∈ ks, Bits k ∧ k.length = 48) : ∀ k ∈ dirB dec ks, Bits k ∧ k.length = 48 := by
  unfold dirB
  split
  · intro k hk; exact h k (List.mem_reverse.1 hk)
  · exact h
theorem feist_good (ks : List (List Int)) : ∀ (p : List Int × List Int), p.1.length = 32 → p.2.length = 32 → Bits p.1 → Bits p.2 →
    (feist ks p).1.length = 32 ∧ (feist ks p).2.length = 32 ∧ Bits (feist ks p).1 ∧ Bits (feist ks p).2 := by
  induction ks with
  | nil => intro p h1 h2 h3 h4; exact ⟨h1, h2, h3, h4⟩
  | cons k ks ih =>
    intro p h1 h2 h3 h4
    exact ih _ h2 (by simp only []; rw [xorB_length _ _ (by rw [roundB_length]; exact h1)]; exact h1) h4 (xorB_bits _ _)
theorem feist_append (a b : List (List Int)) (p : List Int × List Int) : feist (a ++ b) p = feist b (feist a p) := by
  induction a generalizing p with
  | nil => rfl
  | cons k ks ih => exact ih _
theorem desB_bits {x : List Int} (ks : List (List Int)) (hx : Bits x) (hl : x.length = 64) : Bits (desB ks x) ∧ (desB ks x).length = 64 := by
  have hp := pickB_bits hx tIP
  have hlen : (pickB x tIP).length = 64 := pickB_length _ _
  obtain ⟨h1, h2, h3, h4⟩ := feist_good ks ((pickB x tIP).take 32, (pickB x tIP).drop 32) (by simp [hlen]) (by simp [hlen]) (hp.take _) (hp.drop _)
  exact ⟨pickB_bits (h4.append h3) _, pickB_length _ _⟩
theorem desL_length (key block : List Int) (dec : Bool) (h : block.length = 8) : (desL key block dec).length = 8 :=
  unbits_length 8 _ (desB_bits _ (bitsOf_bits block) (by rw [bitsOf_length]; omega)).2
theorem desL_bytes (key block : List Int) (dec : Bool) (h : block.length = 8) : Bytes (desL key block dec) :=
  unbits_bytes 8 _ (desB_bits _ (bitsOf_bits block) (by rw [bitsOf_length]; omega)).2 (desB_bits _ (bitsOf_bits block) (by rw [bitsOf_length]; omega)).1
end Go.Proofs.Ytiejallnkgllnaa.D
namespace Go.Proofs.Ytiejallnkgllnaa
open Go.RowKit Go.Proofs.YtiejallnkgllnaaW.PrintWords Go.Proofs.YtiejallnkgllnaaW.PrintLast Go.Proofs.YtiejallnkgllnaaW.PrintMore
set_option linter.unusedVariables false

theorem run_index_nums {P : Program} {t e : TypeId} {k : IntKind} {n : Nat} (ht : P.underlying t = some (.array n e)) (he : P.underlying e = some (.int k)) (hs : (P.info? e).map (·.size) = some 1) (xs : List Int) (i : Nat) (hl : xs.length = n) (hi : i < n) (W : World) :
    (Instr.index t (.agg (nums k xs).toArray) (.int .i64 (i : Int))).run P W = .ok (.int k (nth xs i)) W := by
  obtain ⟨info, hinfo, hz⟩ := Option.map_eq_some_iff.1 hs
  have hx : (nums k xs)[i]? = some (.int k (nth xs i)) := by simp [nums, nth, List.getD_eq_getElem?_getD, hl, hi]
  simp [Instr.index, asIntOf, run_underlying ht, part, isAgg, run_underlying he, sizeOf, typeInfo, hinfo, hz, hi, hx]
theorem Blk.setRow {w : World} {g : Nat} {k : IntKind} {t : TypeId} {xs : List Int} (h : Blk w g k t xs) (ys : List Int) : Blk (w.setRow g (nums k ys).toArray) g k t ys := setRow_heap w g _ _ t (0, 0) h
theorem Blk.setRow_far {w : World} {g g' : Nat} {k : IntKind} {t : TypeId} {xs : List Int} (h : Blk w g k t xs) (hne : g ≠ g') (cs : Array Value) : Blk (w.setRow g' cs) g k t xs := (setRow_other w g' g cs hne).trans h
theorem nums_all (k : IntKind) (l : List Int) : (nums k l).toArray.all (·.oneCell') = true := by
  simp only [List.all_toArray, List.all_eq_true]
  exact nums_one k l
section
variable {P : Program} {ops : Array Oper} {rest : List Oper} {o : Oper} {a : Act} {w : World} {Q : Exit → Act → World → Prop}
/-- A whole array read out of its block. -/
theorem wpList_load_blk (hgd : o.guard = none) (ty : TypeId) (x : Operand) (ho : o.op = .load ty x) (g : Nat) (hx : a.eval x = .pointer (some ⟨g, 0, none⟩)) {n : Nat} {e : TypeId} (hu : P.underlying ty = some (.array n e)) (hi : (P.info? ty).map (·.size) = some n)
    {k : IntKind} {t : TypeId} {xs : List Int} (hb : Blk w g k t xs) (hl : xs.length = n) (h : wpList P ops Q rest (a.put o.dst (.agg (nums k xs).toArray)) w) : wpList P ops Q (o :: rest) a w :=
  wpList_load_row hgd ty x ho g hx t (nums k xs).toArray (0, 0) _ hb hu rfl (by rw [hi]; simp [nums, hl]) h
/-- A whole array stored into its block. -/
theorem wpList_store_blk (hgd : o.guard = none) (ty : TypeId) (x y : Operand) (ho : o.op = .store ty x y) (g : Nat) (hx : a.eval x = .pointer (some ⟨g, 0, none⟩)) {n : Nat} (hi : (P.info? ty).map (·.size) = some n)
    {k : IntKind} {t : TypeId} {xs ys : List Int} (hy : a.eval y = .agg (nums k ys).toArray) (hb : Blk w g k t xs) (hl : xs.length = n) (hl2 : ys.length = n) (h : wpList P ops Q rest (a.put o.dst undef) (w.setRow g (nums k ys).toArray)) : wpList P ops Q (o :: rest) a w :=
  wpList_store_row hgd ty x y ho g (nums k ys).toArray hx hy t (nums k xs).toArray hb (by rw [hi]; simp [nums, hl2]) (by simp [nums, hl, hl2]) (nums_all k ys) h
/-- A result that is an array in its block. -/
theorem results_blk {fn : Func} {p : Tmp} {ty : TypeId} (h : fn.results = #[.cell p ty]) (tmps : Array Value) (w : World) (g : Nat) {n : Nat} {e : TypeId} (hu : P.underlying ty = some (.array n e)) (hi : (P.info? ty).map (·.size) = some n)
    {k : IntKind} {t : TypeId} {xs : List Int} (hp : tmps.getD p undef = .pointer (some ⟨g, 0, none⟩)) (hb : Blk w g k t xs) (hl : xs.length = n) :
    (results fn tmps).run P w = .ok (.agg (nums k xs).toArray) w :=
  results_cell_row h tmps w g t (nums k xs).toArray (0, 0) _ hp hb hu rfl (by rw [hi]; simp [nums, hl])
end
end Go.Proofs.Ytiejallnkgllnaa
namespace Go.Proofs.Ytiejallnkgllnaa.B
open Go.RowKit Go.Proofs.YtiejallnkgllnaaW.PrintWords Go.Proofs.YtiejallnkgllnaaW.PrintLast Go.Proofs.YtiejallnkgllnaaW.PrintMore
def xorL (a b : List Int) : List Int := List.zipWith (fun x y => Go.bits .xor .u8 x y) a b
theorem xorL_length (a b : List Int) (h : a.length ≤ b.length) : (xorL a b).length = a.length := by simp [xorL]; omega
end Go.Proofs.Ytiejallnkgllnaa.B
namespace Go.Proofs.Ytiejallnkgllnaa.B
open Go.RowKit Go.Proofs.YtiejallnkgllnaaW.PrintWords Go.Proofs.YtiejallnkgllnaaW.PrintLast Go.Proofs.YtiejallnkgllnaaW.PrintMore
open Go.Proofs.Ytiejallnkgllnaa Go.Proofs.Ytiejallnkgllnaa.D Go.Proofs.Ytiejallnkgllnaa.LQ
set_option linter.unusedVariables false

theorem wrap64_succ {n : Nat} (h : n < 9223372036854775807) : wrap64 ((n : Int) + 1) = ((n + 1 : Nat) : Int) := by unfold wrap64; omega
theorem take_set_succ (xs : List Int) (i : Nat) (v : Int) (h : i < xs.length) : (xs.set i v).take (i + 1) = xs.take i ++ [v] := by
  rw [List.take_succ_eq_append_getElem (by simpa using h), List.getElem_set_self]
  congr 1
  apply List.ext_getElem
  · simp
  · intro j h1 h2
    simp only [List.getElem_take]
    rw [List.getElem_set_ne]
    simp at h1
    omega

theorem wrap64_in {z : Int} (h : -9223372036854775808 ≤ z ∧ z ≤ 9223372036854775807) : wrap64 z = z := by unfold wrap64; omega
theorem pickB_step (bs t : List Int) (i : Nat) (h : i < t.length) : pickB bs (t.take (i + 1)) = pickB bs (t.take i) ++ [nth bs ((nth t i).toNat - 1)] := by
  rw [List.take_succ_eq_append_getElem h, nth_at t i h]
  simp only [pickB, List.map_append, List.map_cons, List.map_nil]
/-- A table of places of n bits. -/
def Within (t : List Int) (n : Nat) : Prop := ∀ i, i < t.length → 1 ≤ nth t i ∧ nth t i ≤ n

theorem spec_pick_loop (bs t : List Int) (h64 : bs.length ≤ 1024) (ht : t.length ≤ 64) (hw : Within t bs.length) (d : Nat) : ∀ (k i : Nat), i ≤ t.length → t.length - i = d → d < k →
    spec_l1Pick.l0 k bs (pickB bs (t.take i)) t (t.length : Int) (i : Int) = some (pickB bs t) := by
  induction d with
  | zero =>
    intro k i hi hd hk
    obtain ⟨k, rfl⟩ : ∃ m, k = m + 1 := ⟨k - 1, by omega⟩
    rw [spec_l1Pick.l0, if_neg (by omega), List.take_of_length_le (by omega)]
  | succ d ih =>
    intro k i hi hd hk
    obtain ⟨k, rfl⟩ : ∃ m, k = m + 1 := ⟨k - 1, by omega⟩
    have hlt : i < t.length := by omega
    obtain ⟨w1, w2⟩ := hw i hlt
    have e0 : wrap64 (rd t (i : Int) - 1) = (((nth t i).toNat - 1 : Nat) : Int) := by rw [rd_nth, wrap64_in (by omega)]; omega
    have hn := ih k (i + 1) (by omega) (by omega) (by omega)
    have hl : (pickB bs (t.take i)).length < 140737488355328 := by rw [pickB_length, List.length_take]; omega
    rw [spec_l1Pick.l0, if_pos (by omega), if_pos (by omega), if_pos (by omega), e0, if_pos (by omega), if_pos (by omega), if_pos hl, rd_nth, ← pickB_step bs t i hlt, wrap64_succ (by omega)]
    exact hn
theorem spec_pick_eq (bs t : List Int) (h64 : bs.length ≤ 1024) (ht : t.length ≤ 64) (hw : Within t bs.length) (k : Nat) (hk : t.length < k) :
    spec_l1Pick.f k bs t = some (pickB bs t) := by
  unfold spec_l1Pick.f
  exact spec_pick_loop bs t h64 ht hw t.length k 0 (by omega) (by omega) hk

theorem byte_bit : ∀ n : Fin 256, (Go.bits .and .u8 (shr .u8 (n.val : Int) (IntKind.u64.wrap 7)) 1 = (n.val : Int) / 128 % 2 ∧ Go.bits .and .u8 (shr .u8 (n.val : Int) (IntKind.u64.wrap 6)) 1 = (n.val : Int) / 64 % 2 ∧
    Go.bits .and .u8 (shr .u8 (n.val : Int) (IntKind.u64.wrap 5)) 1 = (n.val : Int) / 32 % 2 ∧ Go.bits .and .u8 (shr .u8 (n.val : Int) (IntKind.u64.wrap 4)) 1 = (n.val : Int) / 16 % 2 ∧
    Go.bits .and .u8 (shr .u8 (n.val : Int) (IntKind.u64.wrap 3)) 1 = (n.val : Int) / 8 % 2 ∧ Go.bits .and .u8 (shr .u8 (n.val : Int) (IntKind.u64.wrap 2)) 1 = (n.val : Int) / 4 % 2 ∧
    Go.bits .and .u8 (shr .u8 (n.val : Int) (IntKind.u64.wrap 1)) 1 = (n.val : Int) / 2 % 2 ∧ Go.bits .and .u8 (shr .u8 (n.val : Int) (IntKind.u64.wrap 0)) 1 = (n.val : Int) % 2) := by decide +kernel
theorem fin_of {b : Int} (h : 0 ≤ b ∧ b ≤ 255) : ∃ n : Fin 256, b = (n.val : Int) := ⟨⟨b.toNat, by omega⟩, by simp; omega⟩
theorem l1Bits_byte (k : Nat) (x3 : List Int) (b : Int) (hb : 0 ≤ b ∧ b ≤ 255) (x7 : List Int) (x8 x9 : Int) (hl : x3.length ≤ 1048576) :
    spec_l1Bits.l1 (k + 9) x3 b 7 x7 x8 x9 = spec_l1Bits.l0 k (x3 ++ bits8 b) x7 x8 (wrap64 (x9 + 1)) := by
  obtain ⟨n, rfl⟩ := fin_of hb
  obtain ⟨b7, b6, b5, b4, b3, b2, b1, b0⟩ := byte_bit n
  rw [spec_l1Bits.l1, if_pos (by decide), if_pos (by decide), if_pos (by omega), b7, show wrap64 (7 - 1) = 6 from by decide +kernel]
  rw [spec_l1Bits.l1, if_pos (by decide), if_pos (by decide), if_pos (by simp; omega), b6, show wrap64 (6 - 1) = 5 from by decide +kernel]
  rw [spec_l1Bits.l1, if_pos (by decide), if_pos (by decide), if_pos (by simp; omega), b5, show wrap64 (5 - 1) = 4 from by decide +kernel]
  rw [spec_l1Bits.l1, if_pos (by decide), if_pos (by decide), if_pos (by simp; omega), b4, show wrap64 (4 - 1) = 3 from by decide +kernel]
  rw [spec_l1Bits.l1, if_pos (by decide), if_pos (by decide), if_pos (by simp; omega), b3, show wrap64 (3 - 1) = 2 from by decide +kernel]
  rw [spec_l1Bits.l1, if_pos (by decide), if_pos (by decide), if_pos (by simp; omega), b2, show wrap64 (2 - 1) = 1 from by decide +kernel]
  rw [spec_l1Bits.l1, if_pos (by decide), if_pos (by decide), if_pos (by simp; omega), b1, show wrap64 (1 - 1) = 0 from by decide +kernel]
  rw [spec_l1Bits.l1, if_pos (by decide), if_pos (by decide), if_pos (by simp; omega), b0, show wrap64 (0 - 1) = -1 from by decide +kernel]
  rw [spec_l1Bits.l1, if_neg (by decide)]
  simp only [bits8, List.append_assoc, List.cons_append, List.nil_append]
theorem bitsOf_step (l : List Int) (i : Nat) (h : i < l.length) : bitsOf (l.take (i + 1)) = bitsOf (l.take i) ++ bits8 (nth l i) := by
  rw [List.take_succ_eq_append_getElem h, bitsOf_append, nth_at l i h]
  simp [bitsOf]
theorem spec_bits_loop (l : List Int) (hl : l.length ≤ 4096) (hb : Bytes l) (d : Nat) : ∀ (k i : Nat), i ≤ l.length → l.length - i = d → 10 * d < k →
    spec_l1Bits.l0 k (bitsOf (l.take i)) l (l.length : Int) (i : Int) = some (bitsOf l) := by
  induction d with
  | zero =>
    intro k i hi hd hk
    obtain ⟨k, rfl⟩ : ∃ m, k = m + 1 := ⟨k - 1, by omega⟩
    rw [spec_l1Bits.l0, if_neg (by omega), List.take_of_length_le (by omega)]
  | succ d ih =>
    intro k i hi hd hk
    obtain ⟨k, rfl⟩ : ∃ m, k = m + 9 + 1 := ⟨k - 10, by omega⟩
    have hlt : i < l.length := by omega
    have hn := ih k (i + 1) (by omega) (by omega) (by omega)
    have hlen : (bitsOf (l.take i)).length ≤ 1048576 := by rw [bitsOf_length, List.length_take]; omega
    rw [spec_l1Bits.l0, if_pos (by omega), if_pos (by omega), if_pos (by omega), rd_nth, l1Bits_byte k _ _ (hb.nth i) _ _ _ hlen, ← bitsOf_step l i hlt, wrap64_succ (by omega)]
    exact hn
theorem spec_bits_eq (l : List Int) (hl : l.length ≤ 4096) (hb : Bytes l) (k : Nat) (hk : 10 * l.length < k) : spec_l1Bits.f k l = some (bitsOf l) := by
  unfold spec_l1Bits.f
  exact spec_bits_loop l hl hb l.length k 0 (by omega) (by omega) hk

theorem xorL_bits {a b : List Int} (ha : Bits a) (hb : Bits b) : xorL a b = xorB a b := by
  unfold xorL xorB
  apply List.ext_getElem
  · simp
  · intro i h1 h2
    simp only [List.getElem_zipWith]
    have h3 : i < a.length ∧ i < b.length := by simpa [Nat.lt_min] using h1
    exact xor_u8_bit (ha _ (List.getElem_mem h3.1)) (hb _ (List.getElem_mem h3.2))
theorem spec_xor_loop (a b : List Int) (hab : a.length ≤ b.length) (hl : a.length ≤ 1048576) (d : Nat) : ∀ (k i : Nat) (x5 : List Int), x5.length = a.length → i ≤ a.length → a.length - i = d → d < k →
    spec_l1Xor.l0 k a b x5 (a.length : Int) (i : Int) = some (x5.take i ++ (xorL a b).drop i) := by
  induction d with
  | zero =>
    intro k i x5 h5 hi hd hk
    obtain ⟨k, rfl⟩ : ∃ m, k = m + 1 := ⟨k - 1, by omega⟩
    rw [spec_l1Xor.l0, if_neg (by omega), List.take_of_length_le (by omega), List.drop_of_length_le (by rw [xorL_length a b hab]; omega), List.append_nil]
  | succ d ih =>
    intro k i x5 h5 hi hd hk
    obtain ⟨k, rfl⟩ : ∃ m, k = m + 1 := ⟨k - 1, by omega⟩
    have hlt : i < a.length := by omega
    have hlb : i < b.length := by omega
    have hx : i < (xorL a b).length := by rw [xorL_length a b hab]; exact hlt
    have hn := ih k (i + 1) (x5.set i (Go.bits .xor .u8 (nth a i) (nth b i))) (by simpa using h5) (by omega) (by omega) (by omega)
    rw [spec_l1Xor.l0, if_pos (by omega), if_pos (by omega), if_pos (by omega), if_pos (by omega), if_pos (by omega), rd_nth, rd_nth, Int.toNat_natCast, wrap64_succ (by omega), hn]
    congr 1
    rw [take_set_succ _ _ _ (by omega), List.append_assoc, List.singleton_append, ← List.getElem_cons_drop hx]
    congr 2
    simp [xorL, nth_at a i hlt, nth_at b i hlb]
theorem spec_xor_eq (a b : List Int) (hab : a.length ≤ b.length) (hl : a.length ≤ 1048576) (k : Nat) (hk : a.length < k) : spec_l1Xor.f k a b = some (xorL a b) := by
  unfold spec_l1Xor.f
  rw [if_pos (by omega), if_pos (by omega)]
  have := spec_xor_loop a b hab hl a.length k 0 (List.replicate ((a.length : Int)).toNat 0) (by simp) (by omega) (by omega) hk
  simpa using this

theorem spec_ip_eq : spec_l1IP.f 100 = some tIP := by decide +kernel
theorem spec_e_eq : spec_l1E.f 100 = some tE := by decide +kernel
theorem within_ip : Within tIP 64 := by unfold Within; decide +kernel
theorem within_e : Within tE 32 := by unfold Within; decide +kernel
theorem within_p : Within tP 32 := by unfold Within; decide +kernel
theorem within_pc1 : Within tPC1 64 := by unfold Within; decide +kernel
theorem within_pc2 : Within tPC2 56 := by unfold Within; decide +kernel
end Go.Proofs.Ytiejallnkgllnaa.B
namespace Go.Proofs.Ytiejallnkgllnaa.B
open Go.RowKit Go.Proofs.YtiejallnkgllnaaW.PrintWords Go.Proofs.YtiejallnkgllnaaW.PrintLast Go.Proofs.YtiejallnkgllnaaW.PrintMore
open Go.Proofs.Ytiejallnkgllnaa Go.Proofs.Ytiejallnkgllnaa.D Go.Proofs.Ytiejallnkgllnaa.LQ
set_option linter.unusedVariables false

theorem or_step : ∀ v : Fin 128, Go.bits .or .u8 (((v.val : Int) * 2) % 256) 0 = 2 * (v.val : Int) ∧ Go.bits .or .u8 (((v.val : Int) * 2) % 256) 1 = 2 * (v.val : Int) + 1 := by decide +kernel
theorem or_bit {v x : Int} (h0 : 0 ≤ v) (h1 : v < 128) (hx : x = 0 ∨ x = 1) : Go.bits .or .u8 ((v * 2) % 256) x = 2 * v + x := by
  have h := or_step ⟨v.toNat, by omega⟩
  simp only [show ((v.toNat : Nat) : Int) = v by omega] at h
  rcases hx with rfl | rfl
  · rw [h.1]; omega
  · exact h.2
theorem nth_mid (pre : List Int) (v : Int) (rest : List Int) : nth (pre ++ v :: rest) pre.length = v := by simp [nth]
theorem set_mid (pre : List Int) (v w : Int) (rest : List Int) : (pre ++ v :: rest).set pre.length w = pre ++ w :: rest := by simp
theorem unbits_step (k : Nat) (pre rest bs : List Int) (v : Int) (j : Nat) (hj : j < 8) (hi : 8 * pre.length + j < bs.length) (hl : bs.length ≤ 8192) (hb : Bits bs) (h0 : 0 ≤ v) (h1 : v < 128) :
    spec_l1Unbits.l0 (k + 1) (pre ++ v :: rest) bs (bs.length : Int) ((8 * pre.length + j : Nat) : Int) = spec_l1Unbits.l0 k (pre ++ (2 * v + nth bs (8 * pre.length + j)) :: rest) bs (bs.length : Int) ((8 * pre.length + j + 1 : Nat) : Int) := by
  have e : wrap64 (Int.tdiv ((8 * pre.length + j : Nat) : Int) 8) = (pre.length : Int) := by
    rw [Int.tdiv_eq_ediv_of_nonneg (by omega), wrap64_in (by omega)]
    omega
  have hlen : (pre.length : Int) < ((pre ++ v :: rest).length : Int) := by simp; omega
  rw [spec_l1Unbits.l0, if_pos (by omega), if_pos (by omega), if_pos (by omega), e, if_pos (by omega), if_pos hlen, Int.toNat_natCast, rd_nth, rd_nth, nth_mid, set_mid, or_bit h0 h1 (hb.nth _), wrap64_succ (by omega)]
theorem unbits_append (n : Nat) : ∀ (a b : List Int), a.length = 8 * n → unbits (a ++ b) = unbits a ++ unbits b := by
  induction n with
  | zero =>
    intro a b ha
    obtain rfl := List.eq_nil_of_length_eq_zero (by omega : a.length = 0)
    rfl
  | succ n ih =>
    intro a b ha
    obtain ⟨x0, x1, x2, x3, x4, x5, x6, x7, t, rfl⟩ := list8 (l := a) (by omega)
    simp only [List.cons_append, unbits]
    rw [ih t b (by simp at ha; omega)]
theorem nth_drop (l : List Int) (i j : Nat) : nth (l.drop i) j = nth l (i + j) := by simp [nth, List.getD_eq_getElem?_getD, List.getElem?_drop]
theorem nth_zero (x : Int) (t : List Int) : nth (x :: t) 0 = x := rfl
theorem nth_succ (x : Int) (t : List Int) (j : Nat) : nth (x :: t) (j + 1) = nth t j := by simp [nth]
theorem unbits_byte (k : Nat) (pre rest bs : List Int) (hi : 8 * pre.length + 8 ≤ bs.length) (hl : bs.length ≤ 8192) (hb : Bits bs) :
    spec_l1Unbits.l0 (k + 8) (pre ++ 0 :: rest) bs (bs.length : Int) ((8 * pre.length : Nat) : Int) = spec_l1Unbits.l0 k (pre ++ num ((bs.drop (8 * pre.length)).take 8) :: rest) bs (bs.length : Int) ((8 * pre.length + 8 : Nat) : Int) := by
  obtain ⟨x0, x1, x2, x3, x4, x5, x6, x7, t, ht⟩ := list8 (l := bs.drop (8 * pre.length)) (by rw [List.length_drop]; omega)
  have hbt : Bits (bs.drop (8 * pre.length)) := hb.drop _
  have b : ∀ j, nth bs (8 * pre.length + j) = nth (x0 :: x1 :: x2 :: x3 :: x4 :: x5 :: x6 :: x7 :: t) j := fun j => by rw [← ht, nth_drop]
  rw [ht] at hbt
  have z : ∀ x ∈ (x0 :: x1 :: x2 :: x3 :: x4 :: x5 :: x6 :: x7 :: t), 0 ≤ x ∧ x ≤ 1 := fun x hx => by rcases hbt x hx with h | h <;> omega
  obtain ⟨z0, z1, z2, z3, z4, z5, z6, z7⟩ : (0 ≤ x0 ∧ x0 ≤ 1) ∧ (0 ≤ x1 ∧ x1 ≤ 1) ∧ (0 ≤ x2 ∧ x2 ≤ 1) ∧ (0 ≤ x3 ∧ x3 ≤ 1) ∧ (0 ≤ x4 ∧ x4 ≤ 1) ∧ (0 ≤ x5 ∧ x5 ≤ 1) ∧ (0 ≤ x6 ∧ x6 ≤ 1) ∧ (0 ≤ x7 ∧ x7 ≤ 1) :=
    ⟨z _ (by simp), z _ (by simp), z _ (by simp), z _ (by simp), z _ (by simp), z _ (by simp), z _ (by simp), z _ (by simp)⟩
  clear z
  have s0 := unbits_step (k + 7) pre rest bs 0 0 (by omega) (by omega) hl hb (by omega) (by omega)
  rw [b 0, nth_zero] at s0
  have s1 := unbits_step (k + 6) pre rest bs (2 * 0 + x0) 1 (by omega) (by omega) hl hb (by omega) (by omega)
  rw [b 1, nth_succ, nth_zero] at s1
  have s2 := unbits_step (k + 5) pre rest bs (2 * (2 * 0 + x0) + x1) 2 (by omega) (by omega) hl hb (by omega) (by omega)
  rw [b 2, nth_succ, nth_succ, nth_zero] at s2
  have s3 := unbits_step (k + 4) pre rest bs (2 * (2 * (2 * 0 + x0) + x1) + x2) 3 (by omega) (by omega) hl hb (by omega) (by omega)
  rw [b 3, nth_succ, nth_succ, nth_succ, nth_zero] at s3
  have s4 := unbits_step (k + 3) pre rest bs (2 * (2 * (2 * (2 * 0 + x0) + x1) + x2) + x3) 4 (by omega) (by omega) hl hb (by omega) (by omega)
  rw [b 4, nth_succ, nth_succ, nth_succ, nth_succ, nth_zero] at s4
  have s5 := unbits_step (k + 2) pre rest bs (2 * (2 * (2 * (2 * (2 * 0 + x0) + x1) + x2) + x3) + x4) 5 (by omega) (by omega) hl hb (by omega) (by omega)
  rw [b 5, nth_succ, nth_succ, nth_succ, nth_succ, nth_succ, nth_zero] at s5
  have s6 := unbits_step (k + 1) pre rest bs (2 * (2 * (2 * (2 * (2 * (2 * 0 + x0) + x1) + x2) + x3) + x4) + x5) 6 (by omega) (by omega) hl hb (by omega) (by omega)
  rw [b 6, nth_succ, nth_succ, nth_succ, nth_succ, nth_succ, nth_succ, nth_zero] at s6
  have s7 := unbits_step k pre rest bs (2 * (2 * (2 * (2 * (2 * (2 * (2 * 0 + x0) + x1) + x2) + x3) + x4) + x5) + x6) 7 (by omega) (by omega) hl hb (by omega) (by omega)
  rw [b 7, nth_succ, nth_succ, nth_succ, nth_succ, nth_succ, nth_succ, nth_succ, nth_zero] at s7
  have e : num ((bs.drop (8 * pre.length)).take 8) = 2 * (2 * (2 * (2 * (2 * (2 * (2 * (2 * 0 + x0) + x1) + x2) + x3) + x4) + x5) + x6) + x7 := by rw [ht]; rfl
  rw [e]
  exact s0.trans (s1.trans (s2.trans (s3.trans (s4.trans (s5.trans (s6.trans s7))))))
theorem unbits_loop (bs : List Int) (n : Nat) (hn : bs.length = 8 * n) (hl : bs.length ≤ 8192) (hb : Bits bs) (d : Nat) : ∀ (k q : Nat), q ≤ n → n - q = d → 8 * d < k →
    spec_l1Unbits.l0 k (unbits (bs.take (8 * q)) ++ List.replicate (n - q) 0) bs (bs.length : Int) ((8 * q : Nat) : Int) = some (unbits bs) := by
  induction d with
  | zero =>
    intro k q hq hd hk
    obtain ⟨k, rfl⟩ : ∃ m, k = m + 1 := ⟨k - 1, by omega⟩
    rw [spec_l1Unbits.l0, if_neg (by omega), hd, List.take_of_length_le (by omega)]
    simp
  | succ d ih =>
    intro k q hq hd hk
    obtain ⟨k, rfl⟩ : ∃ m, k = m + 8 := ⟨k - 8, by omega⟩
    have hpl : (unbits (bs.take (8 * q))).length = q := unbits_length q _ (by rw [List.length_take]; omega)
    have hs := unbits_byte k (unbits (bs.take (8 * q))) (List.replicate d 0) bs (by rw [hpl]; omega) hl hb
    rw [hpl] at hs
    rw [hd, List.replicate_succ, hs]
    have hn' := ih k (q + 1) (by omega) (by omega) (by omega)
    have e : unbits (bs.take (8 * (q + 1))) = unbits (bs.take (8 * q)) ++ [num ((bs.drop (8 * q)).take 8)] := by
      have h1 : bs.take (8 * (q + 1)) = bs.take (8 * q) ++ (bs.drop (8 * q)).take 8 := by
        rw [show 8 * (q + 1) = 8 * q + 8 by omega, List.take_add]
      rw [h1, unbits_append q _ _ (by rw [List.length_take]; omega)]
      obtain ⟨x0, x1, x2, x3, x4, x5, x6, x7, t, ht⟩ := list8 (l := bs.drop (8 * q)) (by rw [List.length_drop]; omega)
      rw [ht]
      rfl
    rw [e, show n - (q + 1) = d by omega, List.append_assoc, List.singleton_append] at hn'
    exact hn'
theorem spec_unbits_eq (bs : List Int) (n : Nat) (hn : bs.length = 8 * n) (hl : bs.length ≤ 8192) (hb : Bits bs) (k : Nat) (hk : bs.length < k) : spec_l1Unbits.f k bs = some (unbits bs) := by
  unfold spec_l1Unbits.f
  have e : wrap64 ((bs.length : Int) / 8) = (n : Int) := by rw [wrap64_in (by omega)]; omega
  rw [e, if_pos (by omega), if_pos (by omega), Int.toNat_natCast]
  have := unbits_loop bs n hn hl hb n k 0 (by omega) (by omega) (by omega)
  simpa [unbits] using this
end Go.Proofs.Ytiejallnkgllnaa.B
namespace Go.Proofs.Ytiejallnkgllnaa
open Go.RowKit Go.Proofs.YtiejallnkgllnaaW.PrintWords Go.Proofs.YtiejallnkgllnaaW.PrintLast Go.Proofs.YtiejallnkgllnaaW.PrintMore Go.Proofs.Ytiejallnkgllnaa.D Go.Proofs.Ytiejallnkgllnaa.B Go.Proofs.Ytiejallnkgllnaa.LQ
set_option linter.unusedVariables false

theorem box_size (k : Nat) (hk : k < 8) : (boxT.getD k []).length = 64 := by
  have : ∀ j : Fin 8, (boxT.getD j.val []).length = 64 := by decide
  exact this ⟨k, hk⟩
theorem R_own {w : World} {base n c e : Nat} {ok : Nat → Prop} {A : Option Addr} {k : IntKind} {xs : List Int} (h : Kd.R (Kd.int k) e w base ok (.slice A n c) xs) (hp : 0 < xs.length) : ∃ g, A = some ⟨g, 0, none⟩ ∧ base ≤ g := by
  obtain ⟨h0, inner, ho, hr⟩ := h
  obtain ⟨h1, h2⟩ := ho
  rcases h2 with ⟨_, h4⟩ | ⟨g, cap, cur, hv, hb, _⟩
  · omega
  · injection hv with a b
    exact ⟨g, a, hb⟩
theorem own_cell {w : World} {g : Nat} {l : List Int} (h : Kd.C (Kd.int .u8) w (some ⟨g, 0, none⟩) l.length l) (j : Nat) (hj : j < l.length) : w.cell? ⟨g, j, none⟩ = some (.int .u8 (nth l j)) := by
  obtain ⟨ad, e, hc⟩ := C_cells h (by omega)
  cases e
  have := hc j (.int .u8 (nth l j)) (by simp [nums, hj, nth_at _ _ hj])
  rwa [Addr.add_mid, Nat.zero_add] at this
theorem spec_box (k : Nat) (hk : k < 8) : spec_l1Box.f (k : Int) = some ⟨(boxT.getD k []).toArray⟩ := by
  have : ∀ j : Fin 8, spec_l1Box.f (j.val : Int) = some ⟨(boxT.getD j.val []).toArray⟩ := fun j => match j with
    | ⟨0, _⟩ => rfl | ⟨1, _⟩ => rfl | ⟨2, _⟩ => rfl | ⟨3, _⟩ => rfl | ⟨4, _⟩ => rfl | ⟨5, _⟩ => rfl | ⟨6, _⟩ => rfl | ⟨7, _⟩ => rfl
  exact this ⟨k, hk⟩
theorem spec_hex : ∀ k : Fin 8, ∀ i : Fin 64, spec_l1Hex.f (boxC k.val i.val) = some (hexv (boxC k.val i.val)) ∧ 0 ≤ hexv (boxC k.val i.val) ∧ hexv (boxC k.val i.val) < 16 := by decide +kernel
theorem nib_and : ∀ v : Fin 16, Go.bits .and .u8 ((v.val : Int) / 8) 1 = (v.val : Int) / 8 % 2 ∧ Go.bits .and .u8 ((v.val : Int) / 4) 1 = (v.val : Int) / 4 % 2 ∧ Go.bits .and .u8 ((v.val : Int) / 2) 1 = (v.val : Int) / 2 % 2 ∧ Go.bits .and .u8 (v.val : Int) 1 = (v.val : Int) % 2 := by decide +kernel

theorem run_index_box_i (k : Nat) (hk : k < 8) (i : Int) (h0 : 0 ≤ i) (h1 : i < 64) (W : World) :
    (Instr.index 9 (.string ⟨(boxT.getD k []).toArray⟩) (.int .i64 i)).run Try.prog W = .ok (.int .u8 (boxC k i.toNat)) W := by
  have hs := box_size k hk
  unfold boxC
  generalize boxT.getD k [] = B at *
  have hsz : (ByteArray.mk B.toArray).size = 64 := by simp [ByteArray.size, hs]
  rw [run_index_string _ _ _ _ _ Try.underlying9, dif_pos ⟨h0, by rw [hsz]; omega⟩]
  have : ((ByteArray.mk B.toArray)[i.toNat]'(by rw [hsz]; omega)) = B.getD i.toNat 0 := by
    show B.toArray[i.toNat]'(by simp [hs]; omega) = _
    rw [List.getElem_toArray, List.getD_eq_getElem?_getD, List.getElem?_eq_getElem (by omega)]
    rfl
  rw [this]
theorem new_C (w : World) (e : TypeId) (xs : List Int) (h : xs.length ≤ 9223372036854775807) : Kd.C (Kd.int .u8) (w.alloc (.cells (nums .u8 xs).toArray e)) (some ⟨w.heap.size, 0, none⟩) xs.length xs :=
  (Kd.R_reads' (Blk.R (base := 0) (Blk.new w .u8 e xs) (Nat.zero_le _) rfl h)).2.2
set_option maxHeartbeats 4000000 in
theorem spec_l1Round.calls0 (A0 : Option Addr) (c0 : Nat) (l0 : List Int) (A1 : Option Addr) (c1 : Nat) (l1 : List Int) (w : World) (hr0 : Kd.C (Kd.int .u8) w A0 l0.length l0) (hc0 : l0.length ≤ c0) (hr1 : Kd.C (Kd.int .u8) w A1 l1.length l1) (hc1 : l1.length ≤ c1)
    (h0 : l0.length = 32) (hb0 : Bits l0) (h1 : l1.length = 48) (hb1 : Bits l1) :
    Calls Try.prog 121 #[.slice A0 l0.length c0, .slice A1 l1.length c1] w fun e w' => ∃ v0_ : Value, e = .returned (v0_) ∧ Kd.R (Kd.int .u8) 5 w' w.heap.size (fun _ => True) v0_ (roundB l0 l1) ∧ Below w.heap.size w w' := by
  have HR0 := Aside0.mk hr0
  have HC0 := Aside0.mk hc0
  have HR1 := Aside0.mk hr1
  have HC1 := Aside0.mk hc1
  have hp1 := Aside0.mk (spec_pick_eq l0 tE (by omega) (by decide) (by rw [h0]; exact within_e) 100 (by decide))
  have hpb : Bits (pickB l0 tE) := pickB_bits hb0 _
  have hpl : (pickB l0 tE).length = 48 := pickB_length _ _
  have hx1 := Aside0.mk (spec_xor_eq (pickB l0 tE) l1 (by rw [hpl, h1]; exact Nat.le_refl _) (by omega) 100 (by omega))
  rw [xorL_bits hpb hb1] at hx1
  have hxb := Aside0.mk (xorB_bits (pickB l0 tE) l1)
  have hxl := Aside0.mk ((xorB_length (pickB l0 tE) l1 (by rw [hpl, h1])).trans hpl)
  obtain ⟨x, hx⟩ : ∃ x, x = xorB (pickB l0 tE) l1 := ⟨_, rfl⟩
  have hres : Aside0 (roundB l0 l1 = pickB (boxesTo x 8) tP) := ⟨by rw [hx]; rfl⟩
  rw [← hx] at hx1 hxb hxl
  rw [hres.out]
  clear hr0 hr1 hc0 hc1 h0 hb0 h1 hb1 hpb hpl hx
  go_enter Try.func121, Try.ntmps121
  go_wp2_with (first | (go_at_call 129; go_must (refine (spec_l1E.calls 100 tE _ spec_e_eq).mono ?_; rintro e w1 ⟨v1, rfl, hR, hb⟩; obtain ⟨Ae, ce, ee⟩ := Kd.R_slice hR; subst ee; have HE := Aside0.mk (Kd.R_reads' hR).2; have B1 := Aside0.mk hb; clear hR hb)) | (go_at_call 119; go_must (refine (spec_l1Pick.calls 100 _ _ l0 _ _ tE _ _ (Kd.C_below HR0.out B1.out) HC0.out HE.out.2 HE.out.1 hp1.out).mono ?_; rintro e w2 ⟨v2, rfl, hR, hb⟩; obtain ⟨Ap, cp, ep⟩ := Kd.R_slice hR; subst ep; have HP := Aside0.mk (Kd.R_reads' hR).2; have B2 := Aside0.mk (below_step B1.out hb); clear hR hb)) | (go_at_call 45; go_must (refine (spec_l1Xor.calls 100 _ _ (pickB l0 tE) _ _ l1 _ _ HP.out.2 HP.out.1 (Kd.C_below HR1.out B2.out) HC1.out hx1.out).mono ?_; rintro e w3 ⟨v3, rfl, hR, hb⟩; obtain ⟨Ax, cx, ex⟩ := Kd.R_slice hR; subst ex; obtain ⟨gx, egx, _⟩ := R_own hR (by rw [hxl.out]; decide); subst egx; have HX := Aside0.mk (Kd.R_reads' hR).2; have B3 := Aside0.mk (below_step B2.out hb); clear hR hb)))
  go_loopw [6, 7, 8, 9, 10, 11] (fun v6 v7 v8 v9 v10 v11 wr => ∃ k : Nat, k ≤ 8 ∧ v7 = .int .i64 k ∧ Aside0 (Kd.R (Kd.int .u8) 5 wr w3.heap.size (fun _ => True) v6 (boxesTo x k)) ∧ Aside0 (Below w3.heap.size w3 wr))
    (fun _ v7 _ _ _ _ _ => 8 - (intOf v7).toNat)
  case atStart => exact ⟨0, by omega, rfl, ⟨Kd.R_nil _ _ _ _ _⟩, ⟨Below.refl _ _⟩⟩
  case round =>
    obtain ⟨k, hk, rfl, HO, HW⟩ := hrel
    by_cases hlt : k < 8
    · have hxk := Kd.C_below HX.out.2 HW.out
      have ce : ∀ j, j < 6 → wr.cell? ⟨gx, 6 * k + j, none⟩ = some (.int .u8 (nth x (6 * k + j))) := fun j hj => own_cell hxk (6 * k + j) (by rw [hxl.out]; omega)
      have ce0 := ce 0 (by omega)
      have ce1 := ce 1 (by omega)
      have ce2 := ce 2 (by omega)
      have ce3 := ce 3 (by omega)
      have ce4 := ce 4 (by omega)
      have ce5 := ce 5 (by omega)
      rw [Nat.add_zero] at ce0
      clear ce hxk
      have n0 := hxb.out.nth (6 * k)
      have n1 := hxb.out.nth (6 * k + 1)
      have n2 := hxb.out.nth (6 * k + 2)
      have n3 := hxb.out.nth (6 * k + 3)
      have n4 := hxb.out.nth (6 * k + 4)
      have n5 := hxb.out.nth (6 * k + 5)
      have hpl : Aside0 (place (x.drop (6 * k)) = (nth x (6 * k) * 2 + nth x (6 * k + 5)) * 16 + (nth x (6 * k + 1) * 8 + nth x (6 * k + 2) * 4 + nth x (6 * k + 3) * 2 + nth x (6 * k + 4))) := ⟨by unfold place; rw [nth_drop, nth_drop, nth_drop, nth_drop, nth_drop, nth_drop]; rfl⟩
      obtain ⟨b0, hb0⟩ : ∃ b, b = nth x (6 * k) := ⟨_, rfl⟩
      obtain ⟨b1, hb1⟩ : ∃ b, b = nth x (6 * k + 1) := ⟨_, rfl⟩
      obtain ⟨b2, hb2⟩ : ∃ b, b = nth x (6 * k + 2) := ⟨_, rfl⟩
      obtain ⟨b3, hb3⟩ : ∃ b, b = nth x (6 * k + 3) := ⟨_, rfl⟩
      obtain ⟨b4, hb4⟩ : ∃ b, b = nth x (6 * k + 4) := ⟨_, rfl⟩
      obtain ⟨b5, hb5⟩ : ∃ b, b = nth x (6 * k + 5) := ⟨_, rfl⟩
      rw [← hb0] at ce0 n0
      rw [← hb1] at ce1 n1
      rw [← hb2] at ce2 n2
      rw [← hb3] at ce3 n3
      rw [← hb4] at ce4 n4
      rw [← hb5] at ce5 n5
      rw [← hb0, ← hb1, ← hb2, ← hb3, ← hb4, ← hb5] at hpl
      clear hb0 hb1 hb2 hb3 hb4 hb5
      have m0 : 0 ≤ b0 ∧ b0 ≤ 1 := by omega
      have m1 : 0 ≤ b1 ∧ b1 ≤ 1 := by omega
      have m2 : 0 ≤ b2 ∧ b2 ≤ 1 := by omega
      have m3 : 0 ≤ b3 ∧ b3 ≤ 1 := by omega
      have m4 : 0 ≤ b4 ∧ b4 ≤ 1 := by omega
      have m5 : 0 ≤ b5 ∧ b5 ≤ 1 := by omega
      obtain ⟨m00, m01⟩ := m0
      obtain ⟨m10, m11⟩ := m1
      obtain ⟨m20, m21⟩ := m2
      obtain ⟨m30, m31⟩ := m3
      obtain ⟨m40, m41⟩ := m4
      obtain ⟨m50, m51⟩ := m5
      clear n0 n1 n2 n3 n4 n5
      have hcx := HX.out.1
      rw [hxl.out] at hcx ⊢
      go_wp2
      go_quiet (fail)
      go_wp2
      go_quiet (fail)
      have hi0 : (0 : Int) ≤ (b0 * 2 + b5) * 16 + (b1 * 8 + b2 * 4 + b3 * 2 + b4) ∧ (b0 * 2 + b5) * 16 + (b1 * 8 + b2 * 4 + b3 * 2 + b4) < 64 := by omega
      have hidx := run_index_box_i k hlt _ hi0.1 hi0.2
      have hdg := spec_hex ⟨k, hlt⟩ ⟨((b0 * 2 + b5) * 16 + (b1 * 8 + b2 * 4 + b3 * 2 + b4)).toNat, by omega⟩
      simp only [] at hdg
      obtain ⟨dg0, dg1, dg2⟩ := hdg
      have hst : Aside0 (boxesTo x (k + 1) = boxesTo x k ++ nib (hexv (boxC k ((b0 * 2 + b5) * 16 + (b1 * 8 + b2 * 4 + b3 * 2 + b4)).toNat))) := ⟨by rw [boxesTo, boxB, hpl.out]⟩
      obtain ⟨B, hB⟩ : ∃ B : ByteArray, B = ⟨(boxT.getD k []).toArray⟩ := ⟨_, rfl⟩
      have KB := Aside0.mk (fun (w1 : World) => spec_l1Box.calls (k : Int) _ w1 (spec_box k hlt))
      rw [← hB] at hidx KB
      obtain ⟨v, hv⟩ : ∃ v, v = hexv (boxC k ((b0 * 2 + b5) * 16 + (b1 * 8 + b2 * 4 + b3 * 2 + b4)).toNat) := ⟨_, rfl⟩
      rw [← hv] at dg0 dg1 dg2 hst
      obtain ⟨ch, hch⟩ : ∃ ch, ch = boxC k ((b0 * 2 + b5) * 16 + (b1 * 8 + b2 * 4 + b3 * 2 + b4)).toNat := ⟨_, rfl⟩
      rw [← hch] at dg0 hidx
      have KD := Aside0.mk (fun (w1 : World) => spec_l1Hex.calls ch v w1 dg0)
      have hna := nib_and ⟨v.toNat, by omega⟩
      simp only [show ((v.toNat : Nat) : Int) = v by omega] at hna
      obtain ⟨na0, na1, na2, na3⟩ := hna
      clear hB hv hch dg0 hi0 hpl ce0 ce1 ce2 ce3 ce4 ce5 hcx
      have hn4 : (nib v).length ≤ 9223372036854775807 := by simp [nib]
      go_wp2_with (first | (go_at_call 131; go_must (refine (KB.out _).mono ?_; rintro e w4 ⟨rfl, hb4⟩; have HB4 := Aside0.mk (below_then (pw_below_drewN (Below.refl wr.heap.size wr) _) (Nat.le_refl _) hb4); clear hb4)) | (go_at_call 130; go_must (refine (KD.out _).mono ?_; rintro e w5 ⟨rfl, ⟨nd, rfl⟩⟩)) | ((with_reducible refine gate_builtin (b := .append) (xs := #[.tmp 64, .tmp 76]) rfl ?_); at_builtin; go_must (refine Kd.R_append_rows (Kd.int .u8) (w0 := w3) w3.heap.size rfl (.tmp 64) (.tmp 76) 29 5 (.int .u8 0) 1 rfl Try.underlying29 info5 rfl (by decide) (by omega) u6 (boxesTo x k) (nib v) _ _ _ (fun _ => True) (fun _ => False) rfl rfl ?aO ?aR (fun _ _ h => h) (fun _ h => h.elim) ?aF ?aB ?aS ?aL ?_; (case aR => exact new_C (w4.drewN nd) 5 (nib v) hn4); (case aO => exact Kd.R_alloc (Kd.R_drewN (Kd.R_below HO.out HB4.out) nd) _); (case aF => intro k hk; trivial); (case aB => exact (pw_below_drewN (below_step HW.out HB4.out) nd).alloc (below_step HW.out HB4.out).size _); (case aS => have h_ := (below_step HW.out HB4.out).size; simp; omega); (case aL => rw [boxesTo_length]; simp; omega); intro v1 w6 ho hb hg hat; rw [← hst.out] at ho; have HO1 := Aside0.mk ho; have HW1 := Aside0.mk hb; clear ho hb hg hat HO HW)))
      go_roundw
      case rel => exact ⟨k + 1, by omega, by go_num, HO1, HW1⟩
      case measure => simp [intOf]; omega
    · obtain rfl : k = 8 := by omega
      have hl32 := boxesTo_length x 8
      have hp2 := Aside0.mk (spec_pick_eq (boxesTo x 8) tP (by omega) (by decide) (by rw [hl32]; exact within_p) 100 (by decide))
      obtain ⟨Ao, co, eo⟩ := Kd.R_slice HO.out
      subst eo
      have HO2 := Aside0.mk (Kd.R_reads' HO.out).2
      clear hl32
      go_wp2_with (first | (go_at_call 132; go_must (refine (spec_l1P.calls tP _ rfl).mono ?_; rintro e w7 ⟨v7, rfl, hR, hb⟩; obtain ⟨At, ct, et⟩ := Kd.R_slice hR; subst et; have HT := Aside0.mk (Kd.R_reads' hR).2; have B7 := Aside0.mk hb; clear hR hb)) | (go_at_call 119; go_must (refine (spec_l1Pick.calls 100 _ _ (boxesTo x 8) _ _ tP _ _ (Kd.C_below HO2.out.2 B7.out) HO2.out.1 HT.out.2 HT.out.1 hp2.out).mono ?_; rintro e w8 ⟨v8, rfl, hR, hb⟩; have HR8 := Aside0.mk hR; have B8 := Aside0.mk hb; clear hR hb)))
      go_ret
      have hbb := below_step B3.out (below_step HW.out B7.out)
      exact ⟨_, rfl, Kd.R_lower HR8.out hbb.size, below_step hbb B8.out⟩
end Go.Proofs.Ytiejallnkgllnaa
