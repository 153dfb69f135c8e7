/- Texts of this session and of the kit's print, put together by a program; what this claim does not use is left out. -/
import Derived.Test.YtiejallnkgllnaaKPins2
namespace Go.Proofs.Ytiejallnkgllnaa.LQ
open Go.RowKit Go.Proofs.YtiejallnkgllnaaW.PrintWords Go.Proofs.YtiejallnkgllnaaW.PrintLast Go.Proofs.YtiejallnkgllnaaW.PrintMore
attribute [local go_sem] max2_int min2_int max_two min_two max_three min_three max_four min_four   -- for this text's walks alone
set_option linter.unusedVariables false
set_option linter.unusedSimpArgs false

def spec_DukptInitial.j0 : Nat → List Int → List Int → Bool → Option (List Int)
  | 0, _, _, _ => none
  | k + 1, x0, x1, x14 => if x14 = true then (some ([] : List Int)) else ((spec_l3Count.f x1).bind fun bt256 => (if 8 ≤ (bt256.2.length : Int) then ((spec_Tdea.f k x0 (bt256.2.take 8) false).bind fun t264 => ((spec_l3C0.f).bind fun t267 => ((spec_l1Xor.f k x0 t267).bind fun t270 => ((spec_Tdea.f k t270 (bt256.2.take 8) false).bind fun t277 => (if t264.length + t277.length < 140737488355328 then (some (t264 ++ t277)) else (none)))))) else (none)))
def spec_DukptInitial.f (k : Nat) (l0 : List Int) (l1 : List Int) : Option (List Int) := if (l0.length : Int) = 16 then (spec_DukptInitial.j0 k l0 l1 ((l1.length : Int) != 10)) else (spec_DukptInitial.j0 k l0 l1 true)
def spec_DukptInitial.T4 : Bool × List (List Nat × List Nat) := (true, [([], []), ([], []), ([1], [1]), ([0, 2], [0, 2]), ([], []), ([3], []), ([4, 5, 5], [4, 5]), ([], []), ([7], [7]), ([6, 8, 6], [6, 8]), ([3, 9, 9], [3, 9]), ([10, 10, 0, 1, 2, 3, 4, 5, 6, 7, 8, 9, 10], [10])])
def spec_DukptInitial.B4 : List Nat := [0, 0, 2, 7, 0, 15, 63, 0, 128, 511, 1023, 2047]
theorem spec_DukptInitial.tab4 : rtab .any (opsOf Try.f109 4) = spec_DukptInitial.T4 := by kernel_rfl
theorem spec_DukptInitial.bits4 : waitsOk spec_DukptInitial.T4.2 spec_DukptInitial.B4 = true := by kernel_rfl
set_option maxHeartbeats 8000000 in
set_option maxRecDepth 100000 in
theorem spec_DukptInitial.calls (k : Nat) (A0 : Option Addr) (c0 : Nat) (l0 : List Int) (A1 : Option Addr) (c1 : Nat) (l1 : List Int) (r : List Int) (w : World) (hr0 : Kd.C (Kd.int .u8) w A0 l0.length l0) (hc0 : l0.length ≤ c0) (hr1 : Kd.C (Kd.int .u8) w A1 l1.length l1) (hc1 : l1.length ≤ c1) (h : spec_DukptInitial.f k l0 l1 = some r) :
    Calls Try.prog 109 #[.slice A0 l0.length c0, .slice A1 l1.length c1] w fun e w' => ∃ v0_ : Value, e = .returned (v0_) ∧ Kd.R (Kd.int .u8) 5 w' w.heap.size (fun _ => True) v0_ r ∧ Below w.heap.size w w' := by
  have HR0 := Aside0.mk hr0
  have HC0 := Aside0.mk hc0
  clear hr0 hc0
  have HR1 := Aside0.mk hr1
  have HC1 := Aside0.mk hc1
  clear hr1 hc1
  have HB := Aside0.mk (Below.refl w.heap.size w)
  have H : (if (l0.length : Int) = 16 then (spec_DukptInitial.j0 k l0 l1 ((l1.length : Int) != 10)) else (spec_DukptInitial.j0 k l0 l1 true)) = some r := h
  clear h
  have HC3 := Aside0.mk H
  clear H
  go_enter Try.func109, Try.ntmps109
  go_upto_region 1 with (fail)
  go_cut [14] (fun v14 wc => ∃ (kq : Nat) (x14_2 : Bool), v14 = .bool x14_2 ∧ Aside0 (spec_DukptInitial.j0 kq l0 l1 x14_2 = some r) ∧ Aside0 (kq ≤ k) ∧ Aside0 (Below w.heap.size w wc))
  case first =>
    have H := HC3.out
    clear HC3
    by_cases c4 : (l0.length : Int) = 16
    · rw [if_pos c4] at H
      have c4b0 : ((l0.length : Int) == 16) = true := beq_iff_eq.mpr c4
      have c4b1 : ((l0.length : Int) != 16) = false := bne_eq_false_iff_eq.mpr c4
      clear c4
      (first | rw [c4b0] | (simp only [i64_w, i32_w]; rw [c4b0]) | skip)
      have H' := Aside0.mk H
      clear H
      go_wp2
      go_meet
      case rel => exact ⟨_, (((l1.length : Int) != 10)), (by first | rfl | (simp; done) | (simp [*]; done)), H', ⟨by first | omega | exact Nat.le_refl _⟩, ⟨by repeat (first | (with_reducible first | exact HB.out | apply below_alloc | apply pw_below_drewN | apply below_drew1) | exact HB.out)⟩⟩
    · rw [if_neg c4] at H
      have c4b0 : ((l0.length : Int) == 16) = false := beq_eq_false_iff_ne.mpr c4
      have c4b1 : ((l0.length : Int) != 16) = true := bne_iff_ne.mpr c4
      (first | rw [c4b0] | (simp only [i64_w, i32_w]; rw [c4b0]) | skip)
      have H' := Aside0.mk H
      clear H
      go_wp2
      go_meet
      case rel => exact ⟨_, (true), (by first | rfl | (simp; done) | (simp [*]; done)), H', ⟨by first | omega | exact Nat.le_refl _⟩, ⟨by repeat (first | (with_reducible first | exact HB.out | apply below_alloc | apply pw_below_drewN | apply below_drew1) | exact HB.out)⟩⟩
  case rest =>
    clear HC3
    try clear c1
    try clear p2
    try clear c4
    try clear c4b0
    try clear c4b1
    obtain ⟨kq, x14_2, rfl, HA, HJ2, HB⟩ := hcut
    cases kq with
    | zero => exact absurd HA.out (by simp [spec_DukptInitial.j0])
    | succ kj2 =>
      have H := HA.out
      clear HA
      simp only [spec_DukptInitial.j0] at H
      by_cases c5 : x14_2 = true
      · subst c5
        have H1 : (some ([] : List Int)) = some r := by rw [if_pos rfl] at H; exact H
        clear H
        have H := H1
        clear H1
        obtain rfl := Option.some.inj H
        go_wp2
        go_ret
        exact ⟨_, by first | rfl | (simp [errW_none, errW_some] <;> rfl) | (simp [*, errW_none, errW_some] <;> rfl), by first | exact Kd.R_nil _ _ _ _ _ | exact Kd.N_nil _ _ _ _ _ | exact Kd.V_nil _ _ _ _ _ | exact Kd.Q_nil _ _ _ _ _ | exact Kd.S_nil _ _ _ _ _, by repeat (first | (with_reducible first | exact HB.out | apply below_alloc | apply pw_below_drewN | apply below_drew1) | exact HB.out)⟩
      · replace c5 := Bool.eq_false_iff.mpr c5
        subst c5
        have H1 : ((spec_l3Count.f l1).bind fun bt256 => (if 8 ≤ (bt256.2.length : Int) then ((spec_Tdea.f kj2 l0 (bt256.2.take 8) false).bind fun t264 => ((spec_l3C0.f).bind fun t267 => ((spec_l1Xor.f kj2 l0 t267).bind fun t270 => ((spec_Tdea.f kj2 t270 (bt256.2.take 8) false).bind fun t277 => (if t264.length + t277.length < 140737488355328 then (some (t264 ++ t277)) else (none)))))) else (none))) = some r := by rw [if_neg (show ¬ (false = true) by decide)] at H; exact H
        clear H
        have H := H1
        clear H1
        replace H := Option.bind_eq_some_iff.mp H
        obtain ⟨⟨t256, t257⟩, A60, H⟩ := H
        replace H : (if 8 ≤ (t257.length : Int) then ((spec_Tdea.f kj2 l0 (t257.take 8) false).bind fun t264 => ((spec_l3C0.f).bind fun t267 => ((spec_l1Xor.f kj2 l0 t267).bind fun t270 => ((spec_Tdea.f kj2 t270 (t257.take 8) false).bind fun t277 => (if t264.length + t277.length < 140737488355328 then (some (t264 ++ t277)) else (none)))))) else (none)) = some r := H
        have A6 := Aside0.mk A60
        clear A60
        by_cases c7 : 8 ≤ (t257.length : Int)
        · rw [if_pos c7] at H
          have c7b0 := eq_true c7
          have c7b1 : decide (8 ≤ (t257.length : Int)) = true := decide_eq_true c7
          clear c7
          obtain ⟨y260, hy260⟩ : ∃ y_ : List Int, y_ = (t257.take 8) := ⟨_, rfl⟩
          replace H : ((spec_Tdea.f kj2 l0 y260 false).bind fun t264 => ((spec_l3C0.f).bind fun t267 => ((spec_l1Xor.f kj2 l0 t267).bind fun t270 => ((spec_Tdea.f kj2 t270 (t257.take 8) false).bind fun t277 => (if t264.length + t277.length < 140737488355328 then (some (t264 ++ t277)) else (none)))))) = some r := by first | (rw [hy260]; with_reducible exact H) | (have H2_ := (Option.bind_some _ _).symm.trans H; rw [hy260]; with_reducible exact H2_) | (have H2_ := (Option.bind_some _ _).symm.trans H; with_reducible exact H2_) | with_reducible exact H | (rw [hy260]; exact H) | exact H
          have Ny260 := Aside0.mk hy260
          clear hy260
          replace H := Option.bind_eq_some_iff.mp H
          obtain ⟨t264, A80, H⟩ := H
          replace H : ((spec_l3C0.f).bind fun t267 => ((spec_l1Xor.f kj2 l0 t267).bind fun t270 => ((spec_Tdea.f kj2 t270 (t257.take 8) false).bind fun t277 => (if t264.length + t277.length < 140737488355328 then (some (t264 ++ t277)) else (none))))) = some r := H
          have A8 := Aside0.mk A80
          clear A80
          replace H := Option.bind_eq_some_iff.mp H
          obtain ⟨t267, A90, H⟩ := H
          replace H : ((spec_l1Xor.f kj2 l0 t267).bind fun t270 => ((spec_Tdea.f kj2 t270 (t257.take 8) false).bind fun t277 => (if t264.length + t277.length < 140737488355328 then (some (t264 ++ t277)) else (none)))) = some r := H
          have A9 := Aside0.mk A90
          clear A90
          replace H := Option.bind_eq_some_iff.mp H
          obtain ⟨t270, A100, H⟩ := H
          replace H : ((spec_Tdea.f kj2 t270 (t257.take 8) false).bind fun t277 => (if t264.length + t277.length < 140737488355328 then (some (t264 ++ t277)) else (none))) = some r := H
          have A10 := Aside0.mk A100
          clear A100
          have c11b0 := eq_true (of_decide_eq_true (by first | (with_reducible assumption) | assumption) : 8 ≤ (t257.length : Int))
          obtain ⟨y273, hy273⟩ : ∃ y_ : List Int, y_ = (t257.take 8) := ⟨_, rfl⟩
          replace H : ((spec_Tdea.f kj2 t270 y273 false).bind fun t277 => (if t264.length + t277.length < 140737488355328 then (some (t264 ++ t277)) else (none))) = some r := by first | (rw [hy273]; with_reducible exact H) | (have H2_ := (Option.bind_some _ _).symm.trans H; rw [hy273]; with_reducible exact H2_) | (have H2_ := (Option.bind_some _ _).symm.trans H; with_reducible exact H2_) | with_reducible exact H | (rw [hy273]; exact H) | exact H
          have Ny273 := Aside0.mk hy273
          clear hy273
          have ey_ : y260 = y273 := by rw [Ny260.out, Ny273.out]
          subst ey_
          replace H := Option.bind_eq_some_iff.mp H
          obtain ⟨t277, A120, H⟩ := H
          replace H : (if t264.length + t277.length < 140737488355328 then (some (t264 ++ t277)) else (none)) = some r := H
          have A12 := Aside0.mk A120
          clear A120
          by_cases c13 : t264.length + t277.length < 140737488355328
          · rw [if_pos c13] at H
            have LMc13 := Aside0.mk c13
            clear c13
            obtain ⟨y280, hy280⟩ : ∃ y_ : List Int, y_ = (t264 ++ t277) := ⟨_, rfl⟩
            replace H : (some y280) = some r := by first | (rw [hy280]; with_reducible exact H) | (have H2_ := (Option.bind_some _ _).symm.trans H; rw [hy280]; with_reducible exact H2_) | (have H2_ := (Option.bind_some _ _).symm.trans H; with_reducible exact H2_) | with_reducible exact H | (rw [hy280]; exact H) | exact H
            have Ny280 := Aside0.mk hy280
            clear hy280
            obtain rfl := Option.some.inj H
            try go_wp2_with (first | ((with_reducible refine gate_callee (f := 103) rfl ?_); refine goesL_ (some 17) rfl rfl Try.func103 (by kernel_rfl) rfl #[.slice A1 l1.length c1] rfl (by (try simp only [List.map_toArray, List.map_cons, List.map_nil]); first | done | rfl | (simp only [List.length_drop, List.length_take]; rfl)) ?_; (with_reducible refine (spec_l3Count.calls _ _ l1 t256 t257 _ ?side1 ?side2 A6.out).mono ?_); (case side1 => repeat (first | exact (Kd.C_below HR1.out HB.out) | (with_reducible refine Kd.C_alloc ?_ _) | (with_reducible refine Kd.C_drewN ?_ _) | (with_reducible refine Kd.C_drew ?_))); (case side2 => exact HC1.out); rintro e w14 ⟨v258, rfl, ho0, hb⟩; refine ⟨_, rfl, ?_⟩; have n0_ := Aside0.mk (Kd.R_lower ho0 (below_size (by repeat (first | (with_reducible first | exact HB.out | apply below_alloc | apply pw_below_drewN | apply below_drew1) | exact HB.out)))); have n1_ := Aside0.mk (below_step (by repeat (first | (with_reducible first | exact HB.out | apply below_alloc | apply pw_below_drewN | apply below_drew1) | exact HB.out)) hb); clear HB; have HO259 := n0_; have HB := n1_; clear n0_ n1_; (try clear hb); (try clear hb2); (try clear hk); (try clear hi); (try clear ho0)))
            have n0_ := Aside0.mk (Kd.R_drew HO259.out)
            have n1_ := Aside0.mk (below_drew1 HB.out)
            clear HO259
            clear HB
            have HO259 := n0_
            have HB := n1_
            clear n0_ n1_
            obtain ⟨Ao17, co17, eo17⟩ := Kd.R_slice HO259.out
            (first | subst eo17 | (injection eo17 with f1_ f2_ f3_; have f4_ := f1_.symm; have f5_ := f3_.symm; clear f1_ f2_ f3_; subst f4_; subst f5_))
            have q16 : (8 : Int) ≤ ((t257.length : Int) : Int) := of_decide_eq_true (by first | (with_reducible assumption) | assumption)
            obtain ⟨i016, hi016, _, hsz16, _⟩ := info_parts info5
            have hroom16 : t257.length ≤ co17 := (Kd.R_reads' HO259.out).2.1
            have hC16 : Kd.C (Kd.int .u8) _ Ao17 t257.length t257 := (Kd.R_reads' HO259.out).2.2
            have hcut16 := cut_to (P := Try.prog) 29 5 .i64 Try.underlying29 hi016 Ao17 t257.length co17 8 (by omega) q16 hroom16
            have hr16 := Kd.C_take (m := 8) hC16 (by omega)
            have hy16 : y260.length = (8 : Int).toNat := (by rw [Ny260.out, List.length_take]; omega)
            rw [← Ny260.out] at hr16
            rw [← hy16] at hcut16
            have HR263 := Aside0.mk hr16
            have HC263 := Aside0.mk (show y260.length ≤ co17 from by omega)
            clear hr16 hC16 hroom16 hi016 hsz16
            have KY16 := Aside0.mk hy16
            clear hy16
            have KL16 := Aside0.mk (show 8 ≤ t257.length from by omega)
            replace q16 := eq_true q16
            have q18 : (8 : Int) ≤ ((t257.length : Int) : Int) := of_decide_eq_true (by first | (with_reducible assumption) | assumption)
            obtain ⟨i018, hi018, _, hsz18, _⟩ := info_parts info5
            have hroom18 : t257.length ≤ co17 := (Kd.R_reads' HO259.out).2.1
            have hC18 : Kd.C (Kd.int .u8) _ Ao17 t257.length t257 := (Kd.R_reads' HO259.out).2.2
            have hcut18 := cut_to (P := Try.prog) 29 5 .i64 Try.underlying29 hi018 Ao17 t257.length co17 8 (by omega) q18 hroom18
            have hr18 := Kd.C_take (m := 8) hC18 (by omega)
            have hy18 : y260.length = (8 : Int).toNat := (by rw [Ny273.out, List.length_take]; omega)
            rw [← Ny273.out] at hr18
            rw [← hy18] at hcut18
            have HR276 := Aside0.mk hr18
            have HC276 := Aside0.mk (show y260.length ≤ co17 from by omega)
            clear hr18 hC18 hroom18 hi018 hsz18
            have KY18 := Aside0.mk hy18
            clear hy18
            have KL18 := Aside0.mk (show 8 ≤ t257.length from by omega)
            replace q18 := eq_true q18
            refine start_ (n := 12) (S := fun w' => True) (ds := []) #[false, false, false, false, false, false, false, false, false, false, false, false] (by kernel_rfl) rfl rfl trivial (fun hHeld => ?_); refine with_tabW spec_DukptInitial.tab4 spec_DukptInitial.bits4 (fun HT_ HW_ => ?_)
            generalize w14.drew = w15 at HO259 HB HR263 HR276 hHeld ⊢
            refine pure_ (i := 0) (N := some 20) (v := ?_) (a' := ?_) #[true, false, false, false, false, false, false, false, false, false, false, false] rfl rfl (any_of HT_.out (by kernel_rfl)) (fun _ _ _ h => h) (Or.inl ⟨by rfl, ?_⟩) ?_ ?_
            rotate_left
            · intro w'
              go_simp
              with_reducible rfl
            rotate_left
            · simp only [Act.put, List.setIfInBounds_toArray, List.set_cons_zero, List.set_cons_succ, i64_w, i32_w]
              rfl
            refine pure_ (i := 1) (N := some 21) (v := ?_) (a' := ?_) #[true, true, false, false, false, false, false, false, false, false, false, false] rfl rfl (any_of HT_.out (by kernel_rfl)) (fun _ _ _ h => h) (Or.inl ⟨by rfl, ?_⟩) ?_ ?_
            rotate_left
            · intro w'
              go_simp
              with_reducible rfl
            rotate_left
            · simp only [Act.put, List.setIfInBounds_toArray, List.set_cons_zero, List.set_cons_succ, i64_w, i32_w]
              rfl
            refine pure_ (i := 2) (N := some 22) (v := ?_) (a' := ?_) #[true, true, true, false, false, false, false, false, false, false, false, false] rfl rfl (any_of HT_.out (by kernel_rfl)) (fun _ _ _ h => h) (Or.inl ⟨by rfl, ?_⟩) ?_ ?_
            rotate_left
            · intro w'
              go_simp
              with_reducible rfl
            rotate_left
            · simp only [Act.put, List.setIfInBounds_toArray, List.set_cons_zero, List.set_cons_succ, i64_w, i32_w]
              rfl
            refine pure_ (i := 4) (N := some 24) (v := ?_) (a' := ?_) #[true, true, true, false, true, false, false, false, false, false, false, false] rfl rfl (any_of HT_.out (by kernel_rfl)) (fun _ _ _ h => h) (Or.inl ⟨by rfl, ?_⟩) ?_ ?_
            rotate_left
            · intro w'
              go_simp
              with_reducible rfl
            rotate_left
            · simp only [Act.put, List.setIfInBounds_toArray, List.set_cons_zero, List.set_cons_succ, i64_w, i32_w]
              rfl
            refine pure_ (i := 7) (N := some 27) (v := ?_) (a' := ?_) #[true, true, true, false, true, false, false, true, false, false, false, false] rfl rfl (any_of HT_.out (by kernel_rfl)) (fun _ _ _ h => h) (Or.inl ⟨by rfl, ?_⟩) ?_ ?_
            rotate_left
            · intro w'
              go_simp
              with_reducible rfl
            rotate_left
            · simp only [Act.put, List.setIfInBounds_toArray, List.set_cons_zero, List.set_cons_succ, i64_w, i32_w]
              rfl
            refine pure_ (i := 8) (N := some 28) (v := ?_) (a' := ?_) #[true, true, true, false, true, false, false, true, true, false, false, false] rfl rfl (any_of HT_.out (by kernel_rfl)) (fun _ _ _ h => h) (Or.inl ⟨by rfl, ?_⟩) ?_ ?_
            rotate_left
            · intro w'
              go_simp
              with_reducible rfl
            rotate_left
            · simp only [Act.put, List.setIfInBounds_toArray, List.set_cons_zero, List.set_cons_succ, i64_w, i32_w]
              rfl
            refine one_ (i := 3) (N := some 23) #[true, true, true, true, true, false, false, true, true, false, false, false] rfl rfl (one_of HT_.out (by kernel_rfl)) (by decide) (fun K hK => ?_)
            refine goes_ Try.func92 (by kernel_rfl) rfl #[.slice A0 l0.length c0, .slice Ao17 y260.length co17, .bool false] (by rfl) rfl rfl (by (try simp only [List.map_toArray, List.map_cons, List.map_nil]); first | done | rfl | (simp only [List.length_drop, List.length_take]; rfl)) ?_
            with_reducible refine (spec_Tdea.calls kj2 _ _ l0 _ _ y260 false t264 _ ?side1 ?side2 ?side3 ?side4 A8.out).mono ?_
            (case side1 => repeat (first | exact (Kd.C_below HR0.out HB.out) | (with_reducible refine Kd.C_alloc ?_ _) | (with_reducible refine Kd.C_drewN ?_ _) | (with_reducible refine Kd.C_drew ?_)))
            (case side2 => exact HC0.out)
            (case side3 => repeat (first | exact (by repeat (first | (with_reducible exact HR263.out) | (with_reducible refine Kd.C_alloc ?_ _) | (with_reducible refine Kd.C_drewN ?_ _) | (with_reducible refine Kd.C_drew ?_) | exact HR263.out)) | (with_reducible refine Kd.C_alloc ?_ _) | (with_reducible refine Kd.C_drewN ?_ _) | (with_reducible refine Kd.C_drew ?_)))
            (case side4 => exact HC263.out)
            rintro e w19 ⟨v265, rfl, ho0, hb⟩
            refine ⟨_, rfl, ?_⟩
            have n0_ := Aside0.mk (Kd.R_elder' (by (with_reducible repeat (first | apply Kd.R_alloc | apply Kd.R_drewN | apply Kd.R_drew)); exact HO259.out) (Kd.R_base ho0) hb)
            have n1_ := Aside0.mk (Kd.R_lower (Kd.R_new' ho0 (Kd.R_lt (by (with_reducible repeat (first | apply Kd.R_alloc | apply Kd.R_drewN | apply Kd.R_drew)); exact HO259.out))) (below_size (by repeat (first | (with_reducible first | exact HB.out | apply below_alloc | apply pw_below_drewN | apply below_drew1) | exact HB.out))))
            have n2_ := Aside0.mk (Kd.C_below (by repeat (first | (with_reducible exact HR263.out) | (with_reducible refine Kd.C_alloc ?_ _) | (with_reducible refine Kd.C_drewN ?_ _) | (with_reducible refine Kd.C_drew ?_) | exact HR263.out)) hb)
            have n3_ := Aside0.mk (Kd.C_below (by repeat (first | (with_reducible exact HR276.out) | (with_reducible refine Kd.C_alloc ?_ _) | (with_reducible refine Kd.C_drewN ?_ _) | (with_reducible refine Kd.C_drew ?_) | exact HR276.out)) hb)
            have n4_ := Aside0.mk (below_step (by repeat (first | (with_reducible first | exact HB.out | apply below_alloc | apply pw_below_drewN | apply below_drew1) | exact HB.out)) hb)
            clear HO259
            clear HR263
            clear HR276
            clear HB
            have HO259 := n0_
            have HO266 := n1_
            have HR263 := n2_
            have HR276 := n3_
            have HB := n4_
            clear n0_ n1_ n2_ n3_ n4_
            (try clear hb)
            (try clear hb2)
            (try clear hk)
            (try clear hi)
            (try clear ho0)
            refine hK.out _ _ trivial (fun hHeld => ?_)
            clear hK K
            refine norm_ (a' := ?_) ?_ ?_
            rotate_left
            · show Act.put _ (some 23) _ = _
              simp only [Act.put, List.setIfInBounds_toArray, List.set_cons_zero, List.set_cons_succ, i64_w, i32_w]
              rfl
            refine one_ (i := 5) (N := some 25) #[true, true, true, true, true, true, false, true, true, false, false, false] rfl rfl (one_of HT_.out (by kernel_rfl)) (by decide) (fun K hK => ?_)
            refine goes_ Try.func111 (by kernel_rfl) rfl #[] (by rfl) rfl rfl (by (try simp only [List.map_toArray, List.map_cons, List.map_nil]); first | done | rfl | (simp only [List.length_drop, List.length_take]; rfl)) ?_
            with_reducible refine (spec_l3C0.calls  t267 _ A9.out).mono ?_
            rintro e w20 ⟨v268, rfl, ho0, hb⟩
            refine ⟨_, rfl, ?_⟩
            have n0_ := Aside0.mk (Kd.R_elder' (by (with_reducible repeat (first | apply Kd.R_alloc | apply Kd.R_drewN | apply Kd.R_drew)); exact HO259.out) (Kd.R_base ho0) hb)
            have n1_ := Aside0.mk (Kd.R_elder' (by (with_reducible repeat (first | apply Kd.R_alloc | apply Kd.R_drewN | apply Kd.R_drew)); exact HO266.out) (Kd.R_base ho0) hb)
            have n2_ := Aside0.mk (Kd.R_lower (Kd.R_new' (Kd.R_new' ho0 (Kd.R_lt (by (with_reducible repeat (first | apply Kd.R_alloc | apply Kd.R_drewN | apply Kd.R_drew)); exact HO259.out))) (Kd.R_lt (by (with_reducible repeat (first | apply Kd.R_alloc | apply Kd.R_drewN | apply Kd.R_drew)); exact HO266.out))) (below_size (by repeat (first | (with_reducible first | exact HB.out | apply below_alloc | apply pw_below_drewN | apply below_drew1) | exact HB.out))))
            have n3_ := Aside0.mk (Kd.C_below (by repeat (first | (with_reducible exact HR263.out) | (with_reducible refine Kd.C_alloc ?_ _) | (with_reducible refine Kd.C_drewN ?_ _) | (with_reducible refine Kd.C_drew ?_) | exact HR263.out)) hb)
            have n4_ := Aside0.mk (Kd.C_below (by repeat (first | (with_reducible exact HR276.out) | (with_reducible refine Kd.C_alloc ?_ _) | (with_reducible refine Kd.C_drewN ?_ _) | (with_reducible refine Kd.C_drew ?_) | exact HR276.out)) hb)
            have n5_ := Aside0.mk (below_step (by repeat (first | (with_reducible first | exact HB.out | apply below_alloc | apply pw_below_drewN | apply below_drew1) | exact HB.out)) hb)
            clear HO259
            clear HO266
            clear HR263
            clear HR276
            clear HB
            have HO259 := n0_
            have HO266 := n1_
            have HO269 := n2_
            have HR263 := n3_
            have HR276 := n4_
            have HB := n5_
            clear n0_ n1_ n2_ n3_ n4_ n5_
            (try clear hb)
            (try clear hb2)
            (try clear hk)
            (try clear hi)
            (try clear ho0)
            obtain ⟨Ao21, co21, eo21⟩ := Kd.R_slice HO269.out
            (first | subst eo21 | (injection eo21 with f1_ f2_ f3_; have f4_ := f1_.symm; have f5_ := f3_.symm; clear f1_ f2_ f3_; subst f4_; subst f5_))
            refine hK.out _ _ trivial (fun hHeld => ?_)
            clear hK K
            refine norm_ (a' := ?_) ?_ ?_
            rotate_left
            · show Act.put _ (some 25) _ = _
              simp only [Act.put, List.setIfInBounds_toArray, List.set_cons_zero, List.set_cons_succ, i64_w, i32_w]
              rfl
            refine one_ (i := 6) (N := some 26) #[true, true, true, true, true, true, true, true, true, false, false, false] rfl rfl (one_of HT_.out (by kernel_rfl)) (by decide) (fun K hK => ?_)
            refine goes_ Try.func45 (by kernel_rfl) rfl #[.slice A0 l0.length c0, .slice Ao21 t267.length co21] (by rfl) rfl rfl (by (try simp only [List.map_toArray, List.map_cons, List.map_nil]); first | done | rfl | (simp only [List.length_drop, List.length_take]; rfl)) ?_
            with_reducible refine (spec_l1Xor.calls kj2 _ _ l0 _ _ t267 t270 _ ?side1 ?side2 ?side3 ?side4 A10.out).mono ?_
            (case side1 => repeat (first | exact (Kd.C_below HR0.out HB.out) | (with_reducible refine Kd.C_alloc ?_ _) | (with_reducible refine Kd.C_drewN ?_ _) | (with_reducible refine Kd.C_drew ?_)))
            (case side2 => exact HC0.out)
            (case side3 => repeat (first | exact (Kd.R_reads' HO269.out).2.2 | (with_reducible refine Kd.C_alloc ?_ _) | (with_reducible refine Kd.C_drewN ?_ _) | (with_reducible refine Kd.C_drew ?_)))
            (case side4 => exact (Kd.R_reads' HO269.out).2.1)
            rintro e w22 ⟨v271, rfl, ho0, hb⟩
            refine ⟨_, rfl, ?_⟩
            have n0_ := Aside0.mk (Kd.R_elder' (by (with_reducible repeat (first | apply Kd.R_alloc | apply Kd.R_drewN | apply Kd.R_drew)); exact HO259.out) (Kd.R_base ho0) hb)
            have n1_ := Aside0.mk (Kd.R_elder' (by (with_reducible repeat (first | apply Kd.R_alloc | apply Kd.R_drewN | apply Kd.R_drew)); exact HO266.out) (Kd.R_base ho0) hb)
            have n2_ := Aside0.mk (Kd.R_elder' (by (with_reducible repeat (first | apply Kd.R_alloc | apply Kd.R_drewN | apply Kd.R_drew)); exact HO269.out) (Kd.R_base ho0) hb)
            have n3_ := Aside0.mk (Kd.R_lower (Kd.R_new' (Kd.R_new' (Kd.R_new' ho0 (Kd.R_lt (by (with_reducible repeat (first | apply Kd.R_alloc | apply Kd.R_drewN | apply Kd.R_drew)); exact HO259.out))) (Kd.R_lt (by (with_reducible repeat (first | apply Kd.R_alloc | apply Kd.R_drewN | apply Kd.R_drew)); exact HO266.out))) (Kd.R_lt (by (with_reducible repeat (first | apply Kd.R_alloc | apply Kd.R_drewN | apply Kd.R_drew)); exact HO269.out))) (below_size (by repeat (first | (with_reducible first | exact HB.out | apply below_alloc | apply pw_below_drewN | apply below_drew1) | exact HB.out))))
            have n4_ := Aside0.mk (Kd.C_below (by repeat (first | (with_reducible exact HR263.out) | (with_reducible refine Kd.C_alloc ?_ _) | (with_reducible refine Kd.C_drewN ?_ _) | (with_reducible refine Kd.C_drew ?_) | exact HR263.out)) hb)
            have n5_ := Aside0.mk (Kd.C_below (by repeat (first | (with_reducible exact HR276.out) | (with_reducible refine Kd.C_alloc ?_ _) | (with_reducible refine Kd.C_drewN ?_ _) | (with_reducible refine Kd.C_drew ?_) | exact HR276.out)) hb)
            have n6_ := Aside0.mk (below_step (by repeat (first | (with_reducible first | exact HB.out | apply below_alloc | apply pw_below_drewN | apply below_drew1) | exact HB.out)) hb)
            clear HO259
            clear HO266
            clear HO269
            clear HR263
            clear HR276
            clear HB
            have HO259 := n0_
            have HO266 := n1_
            have HO269 := n2_
            have HO272 := n3_
            have HR263 := n4_
            have HR276 := n5_
            have HB := n6_
            clear n0_ n1_ n2_ n3_ n4_ n5_ n6_
            (try clear hb)
            (try clear hb2)
            (try clear hk)
            (try clear hi)
            (try clear ho0)
            obtain ⟨Ao23, co23, eo23⟩ := Kd.R_slice HO272.out
            (first | subst eo23 | (injection eo23 with f1_ f2_ f3_; have f4_ := f1_.symm; have f5_ := f3_.symm; clear f1_ f2_ f3_; subst f4_; subst f5_))
            refine hK.out _ _ trivial (fun hHeld => ?_)
            clear hK K
            refine norm_ (a' := ?_) ?_ ?_
            rotate_left
            · show Act.put _ (some 26) _ = _
              simp only [Act.put, List.setIfInBounds_toArray, List.set_cons_zero, List.set_cons_succ, i64_w, i32_w]
              rfl
            refine one_ (i := 9) (N := some 29) #[true, true, true, true, true, true, true, true, true, true, false, false] rfl rfl (one_of HT_.out (by kernel_rfl)) (by decide) (fun K hK => ?_)
            refine goes_ Try.func92 (by kernel_rfl) rfl #[.slice Ao23 t270.length co23, .slice Ao17 y260.length co17, .bool false] (by rfl) rfl rfl (by (try simp only [List.map_toArray, List.map_cons, List.map_nil]); first | done | rfl | (simp only [List.length_drop, List.length_take]; rfl)) ?_
            with_reducible refine (spec_Tdea.calls kj2 _ _ t270 _ _ y260 false t277 _ ?side1 ?side2 ?side3 ?side4 A12.out).mono ?_
            (case side1 => repeat (first | exact (Kd.R_reads' HO272.out).2.2 | (with_reducible refine Kd.C_alloc ?_ _) | (with_reducible refine Kd.C_drewN ?_ _) | (with_reducible refine Kd.C_drew ?_)))
            (case side2 => exact (Kd.R_reads' HO272.out).2.1)
            (case side3 => repeat (first | exact (by repeat (first | (with_reducible exact HR276.out) | (with_reducible refine Kd.C_alloc ?_ _) | (with_reducible refine Kd.C_drewN ?_ _) | (with_reducible refine Kd.C_drew ?_) | exact HR276.out)) | (with_reducible refine Kd.C_alloc ?_ _) | (with_reducible refine Kd.C_drewN ?_ _) | (with_reducible refine Kd.C_drew ?_)))
            (case side4 => exact HC276.out)
            rintro e w24 ⟨v278, rfl, ho0, hb⟩
            refine ⟨_, rfl, ?_⟩
            have n0_ := Aside0.mk (Kd.R_elder' (by (with_reducible repeat (first | apply Kd.R_alloc | apply Kd.R_drewN | apply Kd.R_drew)); exact HO259.out) (Kd.R_base ho0) hb)
            have n1_ := Aside0.mk (Kd.R_elder' (by (with_reducible repeat (first | apply Kd.R_alloc | apply Kd.R_drewN | apply Kd.R_drew)); exact HO266.out) (Kd.R_base ho0) hb)
            have n2_ := Aside0.mk (Kd.R_elder' (by (with_reducible repeat (first | apply Kd.R_alloc | apply Kd.R_drewN | apply Kd.R_drew)); exact HO269.out) (Kd.R_base ho0) hb)
            have n3_ := Aside0.mk (Kd.R_elder' (by (with_reducible repeat (first | apply Kd.R_alloc | apply Kd.R_drewN | apply Kd.R_drew)); exact HO272.out) (Kd.R_base ho0) hb)
            have n4_ := Aside0.mk (Kd.R_lower (Kd.R_new' (Kd.R_new' (Kd.R_new' (Kd.R_new' ho0 (Kd.R_lt (by (with_reducible repeat (first | apply Kd.R_alloc | apply Kd.R_drewN | apply Kd.R_drew)); exact HO259.out))) (Kd.R_lt (by (with_reducible repeat (first | apply Kd.R_alloc | apply Kd.R_drewN | apply Kd.R_drew)); exact HO266.out))) (Kd.R_lt (by (with_reducible repeat (first | apply Kd.R_alloc | apply Kd.R_drewN | apply Kd.R_drew)); exact HO269.out))) (Kd.R_lt (by (with_reducible repeat (first | apply Kd.R_alloc | apply Kd.R_drewN | apply Kd.R_drew)); exact HO272.out))) (below_size (by repeat (first | (with_reducible first | exact HB.out | apply below_alloc | apply pw_below_drewN | apply below_drew1) | exact HB.out))))
            have n5_ := Aside0.mk (Kd.C_below (by repeat (first | (with_reducible exact HR263.out) | (with_reducible refine Kd.C_alloc ?_ _) | (with_reducible refine Kd.C_drewN ?_ _) | (with_reducible refine Kd.C_drew ?_) | exact HR263.out)) hb)
            have n6_ := Aside0.mk (Kd.C_below (by repeat (first | (with_reducible exact HR276.out) | (with_reducible refine Kd.C_alloc ?_ _) | (with_reducible refine Kd.C_drewN ?_ _) | (with_reducible refine Kd.C_drew ?_) | exact HR276.out)) hb)
            have n7_ := Aside0.mk (below_step (by repeat (first | (with_reducible first | exact HB.out | apply below_alloc | apply pw_below_drewN | apply below_drew1) | exact HB.out)) hb)
            clear HO259
            clear HO266
            clear HO269
            clear HO272
            clear HR263
            clear HR276
            clear HB
            have HO259 := n0_
            have HO266 := n1_
            have HO269 := n2_
            have HO272 := n3_
            have HO279 := n4_
            have HR263 := n5_
            have HR276 := n6_
            have HB := n7_
            clear n0_ n1_ n2_ n3_ n4_ n5_ n6_ n7_
            (try clear hb)
            (try clear hb2)
            (try clear hk)
            (try clear hi)
            (try clear ho0)
            obtain ⟨Ao26, co26, eo26⟩ := Kd.R_slice HO279.out
            (first | subst eo26 | (injection eo26 with f1_ f2_ f3_; have f4_ := f1_.symm; have f5_ := f3_.symm; clear f1_ f2_ f3_; subst f4_; subst f5_))
            refine hK.out _ _ trivial (fun hHeld => ?_)
            clear hK K
            refine norm_ (a' := ?_) ?_ ?_
            rotate_left
            · show Act.put _ (some 29) _ = _
              simp only [Act.put, List.setIfInBounds_toArray, List.set_cons_zero, List.set_cons_succ, i64_w, i32_w]
              rfl
            refine one_ (i := 10) (N := some 30) #[true, true, true, true, true, true, true, true, true, true, true, false] rfl rfl (one_of HT_.out (by kernel_rfl)) (by decide) (fun K hK => ?_)
            refine Kd.R_append_rows_step (Kd.int .u8) (w0 := w) w.heap.size (by rfl) (.tmp 23) (.tmp 29) 29 5 (.int .u8 0) 1 rfl Try.underlying29 info5 rfl (by decide) (by omega) v265 t264 t277 _ _ _ (fun k_ => some k_ ≠ (.slice Ao17 t257.length co17 : Value).ownBlock ∧ some k_ ≠ (.slice Ao21 t267.length co21 : Value).ownBlock ∧ some k_ ≠ (.slice Ao23 t270.length co23 : Value).ownBlock ∧ some k_ ≠ (.slice Ao26 t277.length co26 : Value).ownBlock) (fun _ => False) rfl rfl ?aO ?aR (fun _ _ h => h) (fun _ h => h.elim) ?aF ?aB ?aS ?aL ?_
            (case aR => repeat (first | exact (Kd.R_reads' HO279.out).2.2 | (with_reducible refine Kd.C_alloc ?_ _) | (with_reducible refine Kd.C_drewN ?_ _) | (with_reducible refine Kd.C_drew ?_)))
            (case aB => exact (by repeat (first | (with_reducible first | exact HB.out | apply below_alloc | apply pw_below_drewN | apply below_drew1) | exact HB.out)))
            (case aF => exact (fun k_ hk => ⟨Kd.fresh' (Kd.R_lt (by (with_reducible repeat (first | apply Kd.R_alloc | apply Kd.R_drewN | apply Kd.R_drew)); exact HO259.out)) k_ hk, Kd.fresh' (Kd.R_lt (by (with_reducible repeat (first | apply Kd.R_alloc | apply Kd.R_drewN | apply Kd.R_drew)); exact HO269.out)) k_ hk, Kd.fresh' (Kd.R_lt (by (with_reducible repeat (first | apply Kd.R_alloc | apply Kd.R_drewN | apply Kd.R_drew)); exact HO272.out)) k_ hk, Kd.fresh' (Kd.R_lt (by (with_reducible repeat (first | apply Kd.R_alloc | apply Kd.R_drewN | apply Kd.R_drew)); exact HO279.out)) k_ hk⟩))
            (case aO => exact (by (with_reducible repeat (first | apply Kd.R_alloc | apply Kd.R_drewN | apply Kd.R_drew)); exact Kd.R_mono HO266.out (fun _ hk => ⟨hk.1.1.1.2, ⟨hk.1.1.2, ⟨hk.1.2, hk.2⟩⟩⟩)))
            (case aS => exact (below_size (by repeat (first | (with_reducible first | exact HB.out | apply below_alloc | apply pw_below_drewN | apply below_drew1) | exact HB.out))))
            (case aL => have := LMc13.out; omega)
            intro v281 w25 ho hb hg hat
            rw [← Ny280.out] at ho
            have n0_ := Aside0.mk (Kd.R_after (ok := (fun k_ => some k_ ≠ (.slice Ao21 t267.length co21 : Value).ownBlock ∧ some k_ ≠ (.slice Ao23 t270.length co23 : Value).ownBlock ∧ some k_ ≠ (.slice Ao26 t277.length co26 : Value).ownBlock)) (by (with_reducible repeat (first | apply Kd.R_alloc | apply Kd.R_drewN | apply Kd.R_drew)); exact Kd.R_mono HO259.out (fun _ hk => ⟨⟨hk.1.1.2, ⟨hk.1.2, hk.2⟩⟩, hk.1.1.1.2⟩)) hg hat)
            have n1_ := Aside0.mk (Kd.R_after (ok := (fun k_ => some k_ ≠ (.slice Ao17 t257.length co17 : Value).ownBlock ∧ some k_ ≠ (.slice Ao23 t270.length co23 : Value).ownBlock ∧ some k_ ≠ (.slice Ao26 t277.length co26 : Value).ownBlock)) (by (with_reducible repeat (first | apply Kd.R_alloc | apply Kd.R_drewN | apply Kd.R_drew)); exact Kd.R_mono HO269.out (fun _ hk => ⟨⟨hk.1.1.1.2, ⟨hk.1.2, hk.2⟩⟩, hk.1.1.2⟩)) hg hat)
            have n2_ := Aside0.mk (Kd.R_after (ok := (fun k_ => some k_ ≠ (.slice Ao17 t257.length co17 : Value).ownBlock ∧ some k_ ≠ (.slice Ao21 t267.length co21 : Value).ownBlock ∧ some k_ ≠ (.slice Ao26 t277.length co26 : Value).ownBlock)) (by (with_reducible repeat (first | apply Kd.R_alloc | apply Kd.R_drewN | apply Kd.R_drew)); exact Kd.R_mono HO272.out (fun _ hk => ⟨⟨hk.1.1.1.2, ⟨hk.1.2, hk.2⟩⟩, hk.1.1.2⟩)) hg hat)
            have n3_ := Aside0.mk (Kd.R_after (ok := (fun k_ => some k_ ≠ (.slice Ao17 t257.length co17 : Value).ownBlock ∧ some k_ ≠ (.slice Ao21 t267.length co21 : Value).ownBlock ∧ some k_ ≠ (.slice Ao23 t270.length co23 : Value).ownBlock)) (by (with_reducible repeat (first | apply Kd.R_alloc | apply Kd.R_drewN | apply Kd.R_drew)); exact Kd.R_mono HO279.out (fun _ hk => ⟨⟨hk.1.1.1.2, ⟨hk.1.2, hk.2⟩⟩, hk.1.1.2⟩)) hg hat)
            have n4_ := Aside0.mk (hb)
            have n5_ := Aside0.mk ((show Kd.C (Kd.int .u8) w25 Ao17 y260.length y260 from by rw [Ny260.out]; exact Kd.C_take (m := 8) ((Kd.R_reads' (Kd.R_after (ok := (fun k_ => some k_ ≠ (.slice Ao21 t267.length co21 : Value).ownBlock ∧ some k_ ≠ (.slice Ao23 t270.length co23 : Value).ownBlock ∧ some k_ ≠ (.slice Ao26 t277.length co26 : Value).ownBlock)) (by (with_reducible repeat (first | apply Kd.R_alloc | apply Kd.R_drewN | apply Kd.R_drew)); exact Kd.R_mono HO259.out (fun _ hk => ⟨⟨hk.1.1.2, ⟨hk.1.2, hk.2⟩⟩, hk.1.1.1.2⟩)) hg hat)).2.2) KL16.out))
            have n6_ := Aside0.mk ((show Kd.C (Kd.int .u8) w25 Ao17 y260.length y260 from by rw [Ny273.out]; exact Kd.C_take (m := 8) ((Kd.R_reads' (Kd.R_after (ok := (fun k_ => some k_ ≠ (.slice Ao21 t267.length co21 : Value).ownBlock ∧ some k_ ≠ (.slice Ao23 t270.length co23 : Value).ownBlock ∧ some k_ ≠ (.slice Ao26 t277.length co26 : Value).ownBlock)) (by (with_reducible repeat (first | apply Kd.R_alloc | apply Kd.R_drewN | apply Kd.R_drew)); exact Kd.R_mono HO259.out (fun _ hk => ⟨⟨hk.1.1.2, ⟨hk.1.2, hk.2⟩⟩, hk.1.1.1.2⟩)) hg hat)).2.2) KL18.out))
            have n7_ := Aside0.mk (ho)
            clear HO259
            clear HO269
            clear HO272
            clear HO279
            clear HB
            clear HR263
            clear HR276
            clear HO266
            have HO259 := n0_
            have HO269 := n1_
            have HO272 := n2_
            have HO279 := n3_
            have HB := n4_
            have HR263 := n5_
            have HR276 := n6_
            have HO282 := n7_
            clear n0_ n1_ n2_ n3_ n4_ n5_ n6_ n7_
            clear ho hb hg hat
            refine hK.out _ _ trivial (fun hHeld => ?_)
            clear hK K
            refine norm_ (a' := ?_) ?_ ?_
            rotate_left
            · show Act.put _ (some 30) _ = _
              simp only [Act.put, List.setIfInBounds_toArray, List.set_cons_zero, List.set_cons_succ, i64_w, i32_w]
              rfl
            refine pure_ (i := 11) (N := some 4) (v := ?_) (a' := ?_) #[true, true, true, true, true, true, true, true, true, true, true, true] rfl rfl (any_of HT_.out (by kernel_rfl)) (fun _ _ _ h => h) (Or.inl ⟨by rfl, ?_⟩) ?_ ?_
            rotate_left
            · intro w'
              go_simp
              with_reducible rfl
            rotate_left
            · simp only [Act.put, List.setIfInBounds_toArray, List.set_cons_zero, List.set_cons_succ, i64_w, i32_w]
              rfl
            refine done_ (done_of HT_.out (by kernel_rfl)) ?_
            try go_wp2
            go_ret
            exact ⟨_, by first | rfl | (simp [errW_none, errW_some] <;> rfl) | (simp [*, errW_none, errW_some] <;> rfl), by (with_reducible repeat (first | apply Kd.R_alloc | apply Kd.R_drewN | apply Kd.R_drew)); exact Kd.R_mono HO282.out (fun _ hk => trivial), by repeat (first | (with_reducible first | exact HB.out | apply below_alloc | apply pw_below_drewN | apply below_drew1) | exact HB.out)⟩
          · rw [if_neg c13] at H
            exact absurd H (by simp)
        · rw [if_neg c7] at H
          exact absurd H (by simp)

def spec_l3Half.f (k : Nat) (l0 : List Int) (l1 : List Int) : Option (List Int) := if 8 ≤ (l0.length : Int) then ((spec_l1Xor.f k l1 (l0.drop 8)).bind fun t285 => ((spec_Des.f (l0.take 8) t285 false).bind fun t288 => ((spec_l1Xor.f k t288 (l0.drop 8)).bind fun t291 => (some t291)))) else (none)
def spec_l3Half.T2 : Bool × List (List Nat × List Nat) := (true, [([], []), ([0], [0]), ([], []), ([], []), ([2, 3], [2, 3]), ([1, 4, 4], [1, 4]), ([], []), ([5, 6, 5], [5, 6]), ([7, 7, 0, 1, 2, 3, 4, 5, 6, 7], [7])])
def spec_l3Half.B2 : List Nat := [0, 1, 0, 0, 12, 31, 0, 127, 255]
theorem spec_l3Half.tab2 : rtab .any (opsOf Try.f110 2) = spec_l3Half.T2 := by kernel_rfl
theorem spec_l3Half.bits2 : waitsOk spec_l3Half.T2.2 spec_l3Half.B2 = true := by kernel_rfl
set_option maxHeartbeats 8000000 in
set_option maxRecDepth 100000 in
theorem spec_l3Half.calls (k : Nat) (A0 : Option Addr) (c0 : Nat) (l0 : List Int) (A1 : Option Addr) (c1 : Nat) (l1 : List Int) (r : List Int) (w : World) (hr0 : Kd.C (Kd.int .u8) w A0 l0.length l0) (hc0 : l0.length ≤ c0) (hr1 : Kd.C (Kd.int .u8) w A1 l1.length l1) (hc1 : l1.length ≤ c1) (h : spec_l3Half.f k l0 l1 = some r) :
    Calls Try.prog 110 #[.slice A0 l0.length c0, .slice A1 l1.length c1] w fun e w' => ∃ v0_ : Value, e = .returned (v0_) ∧ Kd.R (Kd.int .u8) 5 w' w.heap.size (fun _ => True) v0_ r ∧ Below w.heap.size w w' := by
  have HR0 := Aside0.mk hr0
  have HC0 := Aside0.mk hc0
  clear hr0 hc0
  have HR1 := Aside0.mk hr1
  have HC1 := Aside0.mk hc1
  clear hr1 hc1
  have HB := Aside0.mk (Below.refl w.heap.size w)
  have H : (if 8 ≤ (l0.length : Int) then ((spec_l1Xor.f k l1 (l0.drop 8)).bind fun t285 => ((spec_Des.f (l0.take 8) t285 false).bind fun t288 => ((spec_l1Xor.f k t288 (l0.drop 8)).bind fun t291 => (some t291)))) else (none)) = some r := h
  clear h
  by_cases c3 : 8 ≤ (l0.length : Int)
  · rw [if_pos c3] at H
    have c3b0 := eq_true c3
    have c3b1 : decide (8 ≤ (l0.length : Int)) = true := decide_eq_true c3
    clear c3
    have c4b0 := eq_true (of_decide_eq_true (by first | (with_reducible assumption) | assumption) : 8 ≤ (l0.length : Int))
    replace H := Option.bind_eq_some_iff.mp H
    obtain ⟨t285, A50, H⟩ := H
    replace H : ((spec_Des.f (l0.take 8) t285 false).bind fun t288 => ((spec_l1Xor.f k t288 (l0.drop 8)).bind fun t291 => (some t291))) = some r := H
    have A5 := Aside0.mk A50
    clear A50
    replace H := Option.bind_eq_some_iff.mp H
    obtain ⟨t288, A60, H⟩ := H
    replace H : ((spec_l1Xor.f k t288 (l0.drop 8)).bind fun t291 => (some t291)) = some r := H
    have A6 := Aside0.mk A60
    clear A60
    replace H := Option.bind_eq_some_iff.mp H
    obtain ⟨t291, A70, H⟩ := H
    replace H : (some t291) = some r := H
    have A7 := Aside0.mk A70
    clear A70
    obtain rfl := Option.some.inj H
    obtain ⟨i08, hi08, _, hsz8, _⟩ := info_parts info5
    obtain ⟨A8, hcut8, hA8, hC8⟩ := print_drop_of (P := Try.prog) (Value.int .u8) 0 29 5 .i64 Try.underlying29 hi08 hsz8 A0 c0 l0 8 (by omega) (of_decide_eq_true (by first | (with_reducible assumption) | assumption)) HC0.out
    have HR283 := Aside0.mk (Kd.C_of_reads (h1 := fun _ => rfl) (hA8 _ (Kd.reads_of_C HR0.out)))
    have HC283 := Aside0.mk hC8
    clear hA8 hC8 hi08 hsz8
    go_enter Try.func110, Try.ntmps110
    try go_wp2
    have n0_ := Aside0.mk (below_drew1 HB.out)
    clear HB
    have HB := n0_
    clear n0_
    obtain ⟨i010, hi010, _, hsz10, _⟩ := info_parts info5
    obtain ⟨hcut10, hA10, hC10⟩ := print_take_of (P := Try.prog) (Value.int .u8) 0 29 5 .i64 Try.underlying29 hi010 hsz10 A0 c0 l0 8 (by omega) (of_decide_eq_true (by first | (with_reducible assumption) | assumption)) HC0.out
    have HR284 := Aside0.mk (Kd.C_of_reads (h1 := fun _ => rfl) (hA10 _ (Kd.reads_of_C HR0.out)))
    have HC284 := Aside0.mk hC10
    clear hA10 hC10 hi010 hsz10
    refine start_ (n := 9) (S := fun w' => True) (ds := []) #[false, false, false, false, false, false, false, false, false] (by kernel_rfl) rfl rfl trivial (fun hHeld => ?_); refine with_tabW spec_l3Half.tab2 spec_l3Half.bits2 (fun HT_ HW_ => ?_)
    generalize w.drew = w9 at HB HR284 hHeld ⊢
    refine pure_ (i := 0) (N := some 8) (v := ?_) (a' := ?_) #[true, false, false, false, false, false, false, false, false] rfl rfl (any_of HT_.out (by kernel_rfl)) (fun _ _ _ h => h) (Or.inl ⟨by rfl, ?_⟩) ?_ ?_
    rotate_left
    · intro w'
      go_simp
      with_reducible rfl
    rotate_left
    · simp only [Act.put, List.setIfInBounds_toArray, List.set_cons_zero, List.set_cons_succ, i64_w, i32_w]
      rfl
    refine pure_ (i := 1) (N := some 9) (v := ?_) (a' := ?_) #[true, true, false, false, false, false, false, false, false] rfl rfl (any_of HT_.out (by kernel_rfl)) (fun _ _ _ h => h) (Or.inl ⟨by rfl, ?_⟩) ?_ ?_
    rotate_left
    · intro w'
      go_simp
      with_reducible rfl
    rotate_left
    · simp only [Act.put, List.setIfInBounds_toArray, List.set_cons_zero, List.set_cons_succ, i64_w, i32_w]
      rfl
    refine pure_ (i := 2) (N := some 10) (v := ?_) (a' := ?_) #[true, true, true, false, false, false, false, false, false] rfl rfl (any_of HT_.out (by kernel_rfl)) (fun _ _ _ h => h) (Or.inl ⟨by rfl, ?_⟩) ?_ ?_
    rotate_left
    · intro w'
      go_simp
      with_reducible rfl
    rotate_left
    · simp only [Act.put, List.setIfInBounds_toArray, List.set_cons_zero, List.set_cons_succ, i64_w, i32_w]
      rfl
    refine pure_ (i := 3) (N := some 11) (v := ?_) (a' := ?_) #[true, true, true, true, false, false, false, false, false] rfl rfl (any_of HT_.out (by kernel_rfl)) (fun _ _ _ h => h) (Or.inl ⟨by rfl, ?_⟩) ?_ ?_
    rotate_left
    · intro w'
      go_simp
      with_reducible rfl
    rotate_left
    · simp only [Act.put, List.setIfInBounds_toArray, List.set_cons_zero, List.set_cons_succ, i64_w, i32_w]
      rfl
    refine pure_ (i := 6) (N := some 14) (v := ?_) (a' := ?_) #[true, true, true, true, false, false, true, false, false] rfl rfl (any_of HT_.out (by kernel_rfl)) (fun _ _ _ h => h) (Or.inl ⟨by rfl, ?_⟩) ?_ ?_
    rotate_left
    · intro w'
      go_simp
      with_reducible rfl
    rotate_left
    · simp only [Act.put, List.setIfInBounds_toArray, List.set_cons_zero, List.set_cons_succ, i64_w, i32_w]
      rfl
    refine one_ (i := 4) (N := some 12) #[true, true, true, true, true, false, true, false, false] rfl rfl (one_of HT_.out (by kernel_rfl)) (by decide) (fun K hK => ?_)
    refine goes_ Try.func45 (by kernel_rfl) rfl #[.slice A1 l1.length c1, .slice A8 (l0.drop 8).length (c0 - 8)] (by rfl) rfl rfl (by (try simp only [List.map_toArray, List.map_cons, List.map_nil]); first | done | (rw [show (l0.drop 8).length = (l0.length - 8) from List.length_drop] <;> rfl) | rfl | (simp only [List.length_drop, List.length_take]; rfl)) ?_
    with_reducible refine (spec_l1Xor.calls k _ _ l1 _ _ (l0.drop 8) t285 _ ?side1 ?side2 ?side3 ?side4 A5.out).mono ?_
    (case side1 => repeat (first | exact (Kd.C_below HR1.out HB.out) | (with_reducible refine Kd.C_alloc ?_ _) | (with_reducible refine Kd.C_drewN ?_ _) | (with_reducible refine Kd.C_drew ?_)))
    (case side2 => exact HC1.out)
    (case side3 => repeat (first | exact (Kd.C_below HR283.out HB.out) | (with_reducible refine Kd.C_alloc ?_ _) | (with_reducible refine Kd.C_drewN ?_ _) | (with_reducible refine Kd.C_drew ?_)))
    (case side4 => exact HC283.out)
    rintro e w11 ⟨v286, rfl, ho0, hb⟩
    refine ⟨_, rfl, ?_⟩
    have n0_ := Aside0.mk (Kd.R_lower ho0 (below_size (by repeat (first | (with_reducible first | exact HB.out | apply below_alloc | apply pw_below_drewN | apply below_drew1) | exact HB.out))))
    have n1_ := Aside0.mk (below_step (by repeat (first | (with_reducible first | exact HB.out | apply below_alloc | apply pw_below_drewN | apply below_drew1) | exact HB.out)) hb)
    clear HB
    have HO287 := n0_
    have HB := n1_
    clear n0_ n1_
    (try clear hb)
    (try clear hb2)
    (try clear hk)
    (try clear hi)
    (try clear ho0)
    obtain ⟨Ao12, co12, eo12⟩ := Kd.R_slice HO287.out
    (first | subst eo12 | (injection eo12 with f1_ f2_ f3_; have f4_ := f1_.symm; have f5_ := f3_.symm; clear f1_ f2_ f3_; subst f4_; subst f5_))
    refine hK.out _ _ trivial (fun hHeld => ?_)
    clear hK K
    refine norm_ (a' := ?_) ?_ ?_
    rotate_left
    · show Act.put _ (some 12) _ = _
      simp only [Act.put, List.setIfInBounds_toArray, List.set_cons_zero, List.set_cons_succ, i64_w, i32_w]
      rfl
    refine one_ (i := 5) (N := some 13) #[true, true, true, true, true, true, true, false, false] rfl rfl (one_of HT_.out (by kernel_rfl)) (by decide) (fun K hK => ?_)
    refine goes_ Try.func108 (by kernel_rfl) rfl #[.slice A0 (l0.take 8).length c0, .slice Ao12 t285.length co12, .bool false] (by rfl) rfl rfl (by (try simp only [List.map_toArray, List.map_cons, List.map_nil]); first | done | (rw [show (l0.take 8).length = 8 from (by rw [List.length_take]; have h_ : (8 : Int) ≤ (l0.length : Int) := of_decide_eq_true (by first | (with_reducible assumption) | assumption); omega)] <;> rfl) | rfl | (simp only [List.length_drop, List.length_take]; rfl)) ?_
    with_reducible refine (spec_Des.calls _ _ (l0.take 8) _ _ t285 false t288 _ ?side1 ?side2 ?side3 ?side4 A6.out).mono ?_
    (case side1 => repeat (first | exact (Kd.C_below HR284.out HB.out) | (with_reducible refine Kd.C_alloc ?_ _) | (with_reducible refine Kd.C_drewN ?_ _) | (with_reducible refine Kd.C_drew ?_)))
    (case side2 => exact HC284.out)
    (case side3 => repeat (first | exact (Kd.R_reads' HO287.out).2.2 | (with_reducible refine Kd.C_alloc ?_ _) | (with_reducible refine Kd.C_drewN ?_ _) | (with_reducible refine Kd.C_drew ?_)))
    (case side4 => exact (Kd.R_reads' HO287.out).2.1)
    rintro e w13 ⟨v289, rfl, ho0, hb⟩
    refine ⟨_, rfl, ?_⟩
    have n0_ := Aside0.mk (Kd.R_elder' (by (with_reducible repeat (first | apply Kd.R_alloc | apply Kd.R_drewN | apply Kd.R_drew)); exact HO287.out) (Kd.R_base ho0) hb)
    have n1_ := Aside0.mk (Kd.R_lower (Kd.R_new' ho0 (Kd.R_lt (by (with_reducible repeat (first | apply Kd.R_alloc | apply Kd.R_drewN | apply Kd.R_drew)); exact HO287.out))) (below_size (by repeat (first | (with_reducible first | exact HB.out | apply below_alloc | apply pw_below_drewN | apply below_drew1) | exact HB.out))))
    have n2_ := Aside0.mk (below_step (by repeat (first | (with_reducible first | exact HB.out | apply below_alloc | apply pw_below_drewN | apply below_drew1) | exact HB.out)) hb)
    clear HO287
    clear HB
    have HO287 := n0_
    have HO290 := n1_
    have HB := n2_
    clear n0_ n1_ n2_
    (try clear hb)
    (try clear hb2)
    (try clear hk)
    (try clear hi)
    (try clear ho0)
    obtain ⟨Ao14, co14, eo14⟩ := Kd.R_slice HO290.out
    (first | subst eo14 | (injection eo14 with f1_ f2_ f3_; have f4_ := f1_.symm; have f5_ := f3_.symm; clear f1_ f2_ f3_; subst f4_; subst f5_))
    refine hK.out _ _ trivial (fun hHeld => ?_)
    clear hK K
    refine norm_ (a' := ?_) ?_ ?_
    rotate_left
    · show Act.put _ (some 13) _ = _
      simp only [Act.put, List.setIfInBounds_toArray, List.set_cons_zero, List.set_cons_succ, i64_w, i32_w]
      rfl
    refine one_ (i := 7) (N := some 15) #[true, true, true, true, true, true, true, true, false] rfl rfl (one_of HT_.out (by kernel_rfl)) (by decide) (fun K hK => ?_)
    refine goes_ Try.func45 (by kernel_rfl) rfl #[.slice Ao14 t288.length co14, .slice A8 (l0.drop 8).length (c0 - 8)] (by rfl) rfl rfl (by (try simp only [List.map_toArray, List.map_cons, List.map_nil]); first | done | (rw [show (l0.drop 8).length = (l0.length - 8) from List.length_drop] <;> rfl) | rfl | (simp only [List.length_drop, List.length_take]; rfl)) ?_
    with_reducible refine (spec_l1Xor.calls k _ _ t288 _ _ (l0.drop 8) t291 _ ?side1 ?side2 ?side3 ?side4 A7.out).mono ?_
    (case side1 => repeat (first | exact (Kd.R_reads' HO290.out).2.2 | (with_reducible refine Kd.C_alloc ?_ _) | (with_reducible refine Kd.C_drewN ?_ _) | (with_reducible refine Kd.C_drew ?_)))
    (case side2 => exact (Kd.R_reads' HO290.out).2.1)
    (case side3 => repeat (first | exact (Kd.C_below HR283.out HB.out) | (with_reducible refine Kd.C_alloc ?_ _) | (with_reducible refine Kd.C_drewN ?_ _) | (with_reducible refine Kd.C_drew ?_)))
    (case side4 => exact HC283.out)
    rintro e w15 ⟨v292, rfl, ho0, hb⟩
    refine ⟨_, rfl, ?_⟩
    have n0_ := Aside0.mk (Kd.R_elder' (by (with_reducible repeat (first | apply Kd.R_alloc | apply Kd.R_drewN | apply Kd.R_drew)); exact HO287.out) (Kd.R_base ho0) hb)
    have n1_ := Aside0.mk (Kd.R_elder' (by (with_reducible repeat (first | apply Kd.R_alloc | apply Kd.R_drewN | apply Kd.R_drew)); exact HO290.out) (Kd.R_base ho0) hb)
    have n2_ := Aside0.mk (Kd.R_lower (Kd.R_new' (Kd.R_new' ho0 (Kd.R_lt (by (with_reducible repeat (first | apply Kd.R_alloc | apply Kd.R_drewN | apply Kd.R_drew)); exact HO287.out))) (Kd.R_lt (by (with_reducible repeat (first | apply Kd.R_alloc | apply Kd.R_drewN | apply Kd.R_drew)); exact HO290.out))) (below_size (by repeat (first | (with_reducible first | exact HB.out | apply below_alloc | apply pw_below_drewN | apply below_drew1) | exact HB.out))))
    have n3_ := Aside0.mk (below_step (by repeat (first | (with_reducible first | exact HB.out | apply below_alloc | apply pw_below_drewN | apply below_drew1) | exact HB.out)) hb)
    clear HO287
    clear HO290
    clear HB
    have HO287 := n0_
    have HO290 := n1_
    have HO293 := n2_
    have HB := n3_
    clear n0_ n1_ n2_ n3_
    (try clear hb)
    (try clear hb2)
    (try clear hk)
    (try clear hi)
    (try clear ho0)
    refine hK.out _ _ trivial (fun hHeld => ?_)
    clear hK K
    refine norm_ (a' := ?_) ?_ ?_
    rotate_left
    · show Act.put _ (some 15) _ = _
      simp only [Act.put, List.setIfInBounds_toArray, List.set_cons_zero, List.set_cons_succ, i64_w, i32_w]
      rfl
    refine pure_ (i := 8) (N := some 4) (v := ?_) (a' := ?_) #[true, true, true, true, true, true, true, true, true] rfl rfl (any_of HT_.out (by kernel_rfl)) (fun _ _ _ h => h) (Or.inl ⟨by rfl, ?_⟩) ?_ ?_
    rotate_left
    · intro w'
      go_simp
      with_reducible rfl
    rotate_left
    · simp only [Act.put, List.setIfInBounds_toArray, List.set_cons_zero, List.set_cons_succ, i64_w, i32_w]
      rfl
    refine done_ (done_of HT_.out (by kernel_rfl)) ?_
    try go_wp2
    go_ret
    exact ⟨_, by first | rfl | (simp [errW_none, errW_some] <;> rfl) | (simp [*, errW_none, errW_some] <;> rfl), by (with_reducible repeat (first | apply Kd.R_alloc | apply Kd.R_drewN | apply Kd.R_drew)); exact Kd.R_mono HO293.out (fun _ hk => trivial), by repeat (first | (with_reducible first | exact HB.out | apply below_alloc | apply pw_below_drewN | apply below_drew1) | exact HB.out)⟩
  · rw [if_neg c3] at H
    exact absurd H (by simp)

end Go.Proofs.Ytiejallnkgllnaa.LQ
namespace Go.Proofs.Ytiejallnkgllnaa.LQ
open Go.RowKit Go.Proofs.YtiejallnkgllnaaW.PrintWords Go.Proofs.YtiejallnkgllnaaW.PrintLast Go.Proofs.YtiejallnkgllnaaW.PrintMore
attribute [local go_sem] max2_int min2_int max_two min_two max_three min_three max_four min_four   -- for this text's walks alone
set_option linter.unusedVariables false
set_option linter.unusedSimpArgs false

def spec_l3Walk.f : Nat → List Int → List Int → Int → Option (List Int)
  | 0, _, _, _ => none
  | k + 1, l0, l1, a2 => if a2 = 0 then ((spec_DukptInitial.f k l0 l1).bind fun t294 => (some t294)) else ((spec_l3Walk.f k l0 l1 (wrap64 (a2 - (Go.bits .and .i64 a2 (wrap64 (-a2)))))).bind fun t297 => ((spec_l3Count.f l1).bind fun bt300 => (if 7 < (bt300.2.length : Int) then (if 8 < (bt300.2.length : Int) then (if 9 < (bt300.2.length : Int) then ((some (((bt300.2.set (7 : Int).toNat (Go.bits .or .u8 (rd bt300.2 7) ((a2 / 65536) % 256))).set (8 : Int).toNat ((a2 / 256) % 256)).set (9 : Int).toNat ((a2) % 256) : List Int)).bind fun y307 => ((spec_l3C0.f).bind fun t308 => ((spec_l1Xor.f k t297 t308).bind fun t311 => (if 2 ≤ (bt300.2.length : Int) then ((spec_l3Half.f k t311 (y307.drop 2)).bind fun t318 => ((spec_l3Half.f k t297 (y307.drop 2)).bind fun t325 => (if t318.length + t325.length < 140737488355328 then (some (t318 ++ t325)) else (none)))) else (none))))) else (none)) else (none)) else (none))))
def spec_l3Walk.T9 : Bool × List (List Nat × List Nat) := (true, [([], []), ([], []), ([0, 1, 1], [0, 1]), ([], []), ([3], [3]), ([2, 4, 2], [2, 4]), ([], []), ([], []), ([7], [7]), ([6, 8, 5], [6, 8]), ([5, 9, 9], [5, 9]), ([10, 10, 0, 1, 2, 3, 4, 5, 6, 7, 8, 9, 10], [10])])
def spec_l3Walk.B9 : List Nat := [0, 0, 3, 0, 8, 31, 0, 0, 128, 511, 1023, 2047]
theorem spec_l3Walk.tab9 : rtab .any (opsOf Try.f104 9) = spec_l3Walk.T9 := by kernel_rfl
theorem spec_l3Walk.bits9 : waitsOk spec_l3Walk.T9.2 spec_l3Walk.B9 = true := by kernel_rfl
set_option maxHeartbeats 8000000 in
set_option maxRecDepth 100000 in
theorem spec_l3Walk.calls (k : Nat) : ∀ (A0 : Option Addr) (c0 : Nat) (l0 : List Int) (A1 : Option Addr) (c1 : Nat) (l1 : List Int) (a2 : Int) (r : List Int) (w : World) (hr0 : Kd.C (Kd.int .u8) w A0 l0.length l0) (hc0 : l0.length ≤ c0) (hr1 : Kd.C (Kd.int .u8) w A1 l1.length l1) (hc1 : l1.length ≤ c1) (h : spec_l3Walk.f k l0 l1 a2 = some r),
    Calls Try.prog 104 #[.slice A0 l0.length c0, .slice A1 l1.length c1, .int .i64 a2] w fun e w' => ∃ v0_ : Value, e = .returned (v0_) ∧ Kd.R (Kd.int .u8) 5 w' w.heap.size (fun _ => True) v0_ r ∧ Below w.heap.size w w' := by
  induction k using Nat.strongRecOn with
  | _ k ih =>
  intro A0 c0 l0 A1 c1 l1 a2 r w hr0 hc0 hr1 hc1 h
  cases k with
  | zero => exact absurd h (by simp [spec_l3Walk.f])
  | succ k =>
  simp only [spec_l3Walk.f] at h
  have HR0 := Aside0.mk hr0
  have HC0 := Aside0.mk hc0
  clear hr0 hc0
  have HR1 := Aside0.mk hr1
  have HC1 := Aside0.mk hc1
  clear hr1 hc1
  have HB := Aside0.mk (Below.refl w.heap.size w)
  have H : (if a2 = 0 then ((spec_DukptInitial.f k l0 l1).bind fun t294 => (some t294)) else ((spec_l3Walk.f k l0 l1 (wrap64 (a2 - (Go.bits .and .i64 a2 (wrap64 (-a2)))))).bind fun t297 => ((spec_l3Count.f l1).bind fun bt300 => (if 7 < (bt300.2.length : Int) then (if 8 < (bt300.2.length : Int) then (if 9 < (bt300.2.length : Int) then ((some (((bt300.2.set (7 : Int).toNat (Go.bits .or .u8 (rd bt300.2 7) ((a2 / 65536) % 256))).set (8 : Int).toNat ((a2 / 256) % 256)).set (9 : Int).toNat ((a2) % 256) : List Int)).bind fun y307 => ((spec_l3C0.f).bind fun t308 => ((spec_l1Xor.f k t297 t308).bind fun t311 => (if 2 ≤ (bt300.2.length : Int) then ((spec_l3Half.f k t311 (y307.drop 2)).bind fun t318 => ((spec_l3Half.f k t297 (y307.drop 2)).bind fun t325 => (if t318.length + t325.length < 140737488355328 then (some (t318 ++ t325)) else (none)))) else (none))))) else (none)) else (none)) else (none))))) = some r := h
  clear h
  by_cases c4 : a2 = 0
  · rw [if_pos c4] at H
    have c4b0 : (a2 == 0) = true := beq_iff_eq.mpr c4
    have c4b1 : (a2 != 0) = false := bne_eq_false_iff_eq.mpr c4
    clear c4
    replace H := Option.bind_eq_some_iff.mp H
    obtain ⟨t294, A50, H⟩ := H
    replace H : (some t294) = some r := H
    have A5 := Aside0.mk A50
    clear A50
    obtain rfl := Option.some.inj H
    go_enter Try.func104, Try.ntmps104
    go_wp2_with (first | ((with_reducible refine gate_callee (f := 109) rfl ?_); refine goesL_ (some 15) rfl rfl Try.func109 (by kernel_rfl) rfl #[.slice A0 l0.length c0, .slice A1 l1.length c1] rfl (by (try simp only [List.map_toArray, List.map_cons, List.map_nil]); first | done | rfl | (simp only [List.length_drop, List.length_take]; rfl)) ?_; (with_reducible refine (spec_DukptInitial.calls k _ _ l0 _ _ l1 t294 _ ?side1 ?side2 ?side3 ?side4 A5.out).mono ?_); (case side1 => repeat (first | exact HR0.out | (with_reducible refine Kd.C_alloc ?_ _) | (with_reducible refine Kd.C_drewN ?_ _) | (with_reducible refine Kd.C_drew ?_))); (case side2 => exact HC0.out); (case side3 => repeat (first | exact HR1.out | (with_reducible refine Kd.C_alloc ?_ _) | (with_reducible refine Kd.C_drewN ?_ _) | (with_reducible refine Kd.C_drew ?_))); (case side4 => exact HC1.out); rintro e w6 ⟨v295, rfl, ho0, hb⟩; refine ⟨_, rfl, ?_⟩; have n0_ := Aside0.mk (Kd.R_lower ho0 (below_size (by repeat (first | (with_reducible first | exact HB.out | apply below_alloc | apply pw_below_drewN | apply below_drew1) | exact HB.out)))); have n1_ := Aside0.mk (below_step (by repeat (first | (with_reducible first | exact HB.out | apply below_alloc | apply pw_below_drewN | apply below_drew1) | exact HB.out)) hb); clear HB; have HO296 := n0_; have HB := n1_; clear n0_ n1_; (try clear hb); (try clear hb2); (try clear hk); (try clear hi); (try clear ho0)))
    go_ret
    exact ⟨_, by first | rfl | (simp [errW_none, errW_some] <;> rfl) | (simp [*, errW_none, errW_some] <;> rfl), by (with_reducible repeat (first | apply Kd.R_alloc | apply Kd.R_drewN | apply Kd.R_drew)); exact HO296.out, by repeat (first | (with_reducible first | exact HB.out | apply below_alloc | apply pw_below_drewN | apply below_drew1) | exact HB.out)⟩
  · rw [if_neg c4] at H
    have c4b0 : (a2 == 0) = false := beq_eq_false_iff_ne.mpr c4
    have c4b1 : (a2 != 0) = true := bne_iff_ne.mpr c4
    replace H := Option.bind_eq_some_iff.mp H
    obtain ⟨t297, A70, H⟩ := H
    replace H : ((spec_l3Count.f l1).bind fun bt300 => (if 7 < (bt300.2.length : Int) then (if 8 < (bt300.2.length : Int) then (if 9 < (bt300.2.length : Int) then ((some (((bt300.2.set (7 : Int).toNat (Go.bits .or .u8 (rd bt300.2 7) ((a2 / 65536) % 256))).set (8 : Int).toNat ((a2 / 256) % 256)).set (9 : Int).toNat ((a2) % 256) : List Int)).bind fun y307 => ((spec_l3C0.f).bind fun t308 => ((spec_l1Xor.f k t297 t308).bind fun t311 => (if 2 ≤ (bt300.2.length : Int) then ((spec_l3Half.f k t311 (y307.drop 2)).bind fun t318 => ((spec_l3Half.f k t297 (y307.drop 2)).bind fun t325 => (if t318.length + t325.length < 140737488355328 then (some (t318 ++ t325)) else (none)))) else (none))))) else (none)) else (none)) else (none))) = some r := H
    have A7 := Aside0.mk A70
    clear A70
    replace H := Option.bind_eq_some_iff.mp H
    obtain ⟨⟨t300, t301⟩, A80, H⟩ := H
    replace H : (if 7 < (t301.length : Int) then (if 8 < (t301.length : Int) then (if 9 < (t301.length : Int) then ((some (((t301.set (7 : Int).toNat (Go.bits .or .u8 (rd t301 7) ((a2 / 65536) % 256))).set (8 : Int).toNat ((a2 / 256) % 256)).set (9 : Int).toNat ((a2) % 256) : List Int)).bind fun y307 => ((spec_l3C0.f).bind fun t308 => ((spec_l1Xor.f k t297 t308).bind fun t311 => (if 2 ≤ (t301.length : Int) then ((spec_l3Half.f k t311 (y307.drop 2)).bind fun t318 => ((spec_l3Half.f k t297 (y307.drop 2)).bind fun t325 => (if t318.length + t325.length < 140737488355328 then (some (t318 ++ t325)) else (none)))) else (none))))) else (none)) else (none)) else (none)) = some r := H
    have A8 := Aside0.mk A80
    clear A80
    by_cases c9 : 7 < (t301.length : Int)
    · rw [if_pos c9] at H
      have c9b0 : decide (7 < (t301.length : Int)) = true := decide_eq_true c9
      have c9b1 : decide (7 < t301.length) = true := decide_eq_true (by omega)
      clear c9
      obtain ⟨y305, hy305⟩ : ∃ y_ : List Int, y_ = (t301.set (7 : Int).toNat (Go.bits .or .u8 (rd t301 7) ((a2 / 65536) % 256))) := ⟨_, rfl⟩
      replace H : (if 8 < (t301.length : Int) then (if 9 < (t301.length : Int) then ((some ((y305.set (8 : Int).toNat ((a2 / 256) % 256)).set (9 : Int).toNat ((a2) % 256) : List Int)).bind fun y307 => ((spec_l3C0.f).bind fun t308 => ((spec_l1Xor.f k t297 t308).bind fun t311 => (if 2 ≤ (t301.length : Int) then ((spec_l3Half.f k t311 (y307.drop 2)).bind fun t318 => ((spec_l3Half.f k t297 (y307.drop 2)).bind fun t325 => (if t318.length + t325.length < 140737488355328 then (some (t318 ++ t325)) else (none)))) else (none))))) else (none)) else (none)) = some r := by first | (rw [hy305]; with_reducible exact H) | (have H2_ := (Option.bind_some _ _).symm.trans H; rw [hy305]; with_reducible exact H2_) | (have H2_ := (Option.bind_some _ _).symm.trans H; with_reducible exact H2_) | with_reducible exact H | (rw [hy305]; exact H) | exact H
      have Ny305 := Aside0.mk hy305
      clear hy305
      by_cases c11 : 8 < (t301.length : Int)
      · rw [if_pos c11] at H
        have c11b0 : decide (8 < (t301.length : Int)) = true := decide_eq_true c11
        have c11b1 : decide (8 < t301.length) = true := decide_eq_true (by omega)
        clear c11
        obtain ⟨y306, hy306⟩ : ∃ y_ : List Int, y_ = (y305.set (8 : Int).toNat ((a2 / 256) % 256)) := ⟨_, rfl⟩
        replace H : (if 9 < (t301.length : Int) then ((some (y306.set (9 : Int).toNat ((a2) % 256) : List Int)).bind fun y307 => ((spec_l3C0.f).bind fun t308 => ((spec_l1Xor.f k t297 t308).bind fun t311 => (if 2 ≤ (t301.length : Int) then ((spec_l3Half.f k t311 (y307.drop 2)).bind fun t318 => ((spec_l3Half.f k t297 (y307.drop 2)).bind fun t325 => (if t318.length + t325.length < 140737488355328 then (some (t318 ++ t325)) else (none)))) else (none))))) else (none)) = some r := by first | (rw [hy306]; with_reducible exact H) | (have H2_ := (Option.bind_some _ _).symm.trans H; rw [hy306]; with_reducible exact H2_) | (have H2_ := (Option.bind_some _ _).symm.trans H; with_reducible exact H2_) | with_reducible exact H | (rw [hy306]; exact H) | exact H
        have Ny306 := Aside0.mk hy306
        clear hy306
        by_cases c13 : 9 < (t301.length : Int)
        · rw [if_pos c13] at H
          have c13b0 : decide (9 < (t301.length : Int)) = true := decide_eq_true c13
          have c13b1 : decide (9 < t301.length) = true := decide_eq_true (by omega)
          clear c13
          obtain ⟨y307, hy307⟩ : ∃ y_ : List Int, y_ = (y306.set (9 : Int).toNat ((a2) % 256)) := ⟨_, rfl⟩
          replace H : ((spec_l3C0.f).bind fun t308 => ((spec_l1Xor.f k t297 t308).bind fun t311 => (if 2 ≤ (t301.length : Int) then ((spec_l3Half.f k t311 (y307.drop 2)).bind fun t318 => ((spec_l3Half.f k t297 (y307.drop 2)).bind fun t325 => (if t318.length + t325.length < 140737488355328 then (some (t318 ++ t325)) else (none)))) else (none)))) = some r := by first | (rw [hy307]; with_reducible exact H) | (have H2_ := (Option.bind_some _ _).symm.trans H; rw [hy307]; with_reducible exact H2_) | (have H2_ := (Option.bind_some _ _).symm.trans H; with_reducible exact H2_) | with_reducible exact H | (rw [hy307]; exact H) | exact H
          have Ny307 := Aside0.mk hy307
          clear hy307
          replace H := Option.bind_eq_some_iff.mp H
          obtain ⟨t308, A150, H⟩ := H
          replace H : ((spec_l1Xor.f k t297 t308).bind fun t311 => (if 2 ≤ (t301.length : Int) then ((spec_l3Half.f k t311 (y307.drop 2)).bind fun t318 => ((spec_l3Half.f k t297 (y307.drop 2)).bind fun t325 => (if t318.length + t325.length < 140737488355328 then (some (t318 ++ t325)) else (none)))) else (none))) = some r := H
          have A15 := Aside0.mk A150
          clear A150
          replace H := Option.bind_eq_some_iff.mp H
          obtain ⟨t311, A160, H⟩ := H
          replace H : (if 2 ≤ (t301.length : Int) then ((spec_l3Half.f k t311 (y307.drop 2)).bind fun t318 => ((spec_l3Half.f k t297 (y307.drop 2)).bind fun t325 => (if t318.length + t325.length < 140737488355328 then (some (t318 ++ t325)) else (none)))) else (none)) = some r := H
          have A16 := Aside0.mk A160
          clear A160
          by_cases c17 : 2 ≤ (t301.length : Int)
          · rw [if_pos c17] at H
            have c17b0 := eq_true c17
            have c17b1 : decide (2 ≤ (t301.length : Int)) = true := decide_eq_true c17
            clear c17
            obtain ⟨y314, hy314⟩ : ∃ y_ : List Int, y_ = (y307.drop 2) := ⟨_, rfl⟩
            replace H : ((spec_l3Half.f k t311 y314).bind fun t318 => ((spec_l3Half.f k t297 (y307.drop 2)).bind fun t325 => (if t318.length + t325.length < 140737488355328 then (some (t318 ++ t325)) else (none)))) = some r := by first | (rw [hy314]; with_reducible exact H) | (have H2_ := (Option.bind_some _ _).symm.trans H; rw [hy314]; with_reducible exact H2_) | (have H2_ := (Option.bind_some _ _).symm.trans H; with_reducible exact H2_) | with_reducible exact H | (rw [hy314]; exact H) | exact H
            have Ny314 := Aside0.mk hy314
            clear hy314
            replace H := Option.bind_eq_some_iff.mp H
            obtain ⟨t318, A180, H⟩ := H
            replace H : ((spec_l3Half.f k t297 (y307.drop 2)).bind fun t325 => (if t318.length + t325.length < 140737488355328 then (some (t318 ++ t325)) else (none))) = some r := H
            have A18 := Aside0.mk A180
            clear A180
            have c19b0 := eq_true (of_decide_eq_true (by first | (with_reducible assumption) | assumption) : 2 ≤ (t301.length : Int))
            obtain ⟨y321, hy321⟩ : ∃ y_ : List Int, y_ = (y307.drop 2) := ⟨_, rfl⟩
            replace H : ((spec_l3Half.f k t297 y321).bind fun t325 => (if t318.length + t325.length < 140737488355328 then (some (t318 ++ t325)) else (none))) = some r := by first | (rw [hy321]; with_reducible exact H) | (have H2_ := (Option.bind_some _ _).symm.trans H; rw [hy321]; with_reducible exact H2_) | (have H2_ := (Option.bind_some _ _).symm.trans H; with_reducible exact H2_) | with_reducible exact H | (rw [hy321]; exact H) | exact H
            have Ny321 := Aside0.mk hy321
            clear hy321
            replace H := Option.bind_eq_some_iff.mp H
            obtain ⟨t325, A200, H⟩ := H
            replace H : (if t318.length + t325.length < 140737488355328 then (some (t318 ++ t325)) else (none)) = some r := H
            have A20 := Aside0.mk A200
            clear A200
            by_cases c21 : t318.length + t325.length < 140737488355328
            · rw [if_pos c21] at H
              have LMc21 := Aside0.mk c21
              clear c21
              obtain ⟨y328, hy328⟩ : ∃ y_ : List Int, y_ = (t318 ++ t325) := ⟨_, rfl⟩
              replace H : (some y328) = some r := by first | (rw [hy328]; with_reducible exact H) | (have H2_ := (Option.bind_some _ _).symm.trans H; rw [hy328]; with_reducible exact H2_) | (have H2_ := (Option.bind_some _ _).symm.trans H; with_reducible exact H2_) | with_reducible exact H | (rw [hy328]; exact H) | exact H
              have Ny328 := Aside0.mk hy328
              clear hy328
              obtain rfl := Option.some.inj H
              go_enter Try.func104, Try.ntmps104
              try go_wp2_with (first | ((with_reducible refine gate_callee (f := 104) rfl ?_); refine goesL_ (some 25) rfl rfl Try.func104 (by kernel_rfl) rfl #[.slice A0 l0.length c0, .slice A1 l1.length c1, .int .i64 (wrap64 (a2 - (Go.bits .and .i64 a2 (wrap64 (-a2)))))] rfl (by (try simp only [List.map_toArray, List.map_cons, List.map_nil]); first | done | rfl | (simp only [List.length_drop, List.length_take]; rfl)) ?_; (with_reducible refine (ih k (by omega) _ _ l0 _ _ l1 (wrap64 (a2 - (Go.bits .and .i64 a2 (wrap64 (-a2))))) t297 _ ?side1 ?side2 ?side3 ?side4 A7.out).mono ?_); (case side1 => repeat (first | exact HR0.out | (with_reducible refine Kd.C_alloc ?_ _) | (with_reducible refine Kd.C_drewN ?_ _) | (with_reducible refine Kd.C_drew ?_))); (case side2 => exact HC0.out); (case side3 => repeat (first | exact HR1.out | (with_reducible refine Kd.C_alloc ?_ _) | (with_reducible refine Kd.C_drewN ?_ _) | (with_reducible refine Kd.C_drew ?_))); (case side4 => exact HC1.out); rintro e w22 ⟨v298, rfl, ho0, hb⟩; refine ⟨_, rfl, ?_⟩; have n0_ := Aside0.mk (Kd.R_lower ho0 (below_size (by repeat (first | (with_reducible first | exact HB.out | apply below_alloc | apply pw_below_drewN | apply below_drew1) | exact HB.out)))); have n1_ := Aside0.mk (below_step (by repeat (first | (with_reducible first | exact HB.out | apply below_alloc | apply pw_below_drewN | apply below_drew1) | exact HB.out)) hb); clear HB; have HO299 := n0_; have HB := n1_; clear n0_ n1_; (try clear hb); (try clear hb2); (try clear hk); (try clear hi); (try clear ho0)) | ((with_reducible refine gate_callee (f := 103) rfl ?_); refine goesL_ (some 28) rfl rfl Try.func103 (by kernel_rfl) rfl #[.slice A1 l1.length c1] rfl (by (try simp only [List.map_toArray, List.map_cons, List.map_nil]); first | done | rfl | (simp only [List.length_drop, List.length_take]; rfl)) ?_; (with_reducible refine (spec_l3Count.calls _ _ l1 t300 t301 _ ?side1 ?side2 A8.out).mono ?_); (case side1 => repeat (first | exact (Kd.C_below HR1.out HB.out) | (with_reducible refine Kd.C_alloc ?_ _) | (with_reducible refine Kd.C_drewN ?_ _) | (with_reducible refine Kd.C_drew ?_))); (case side2 => exact HC1.out); rintro e w23 ⟨v302, rfl, ho0, hb⟩; refine ⟨_, rfl, ?_⟩; have n0_ := Aside0.mk (Kd.R_elder' (by (with_reducible repeat (first | apply Kd.R_alloc | apply Kd.R_drewN | apply Kd.R_drew)); exact HO299.out) (Kd.R_base ho0) hb); have n1_ := Aside0.mk (Kd.R_lower (Kd.R_new' ho0 (Kd.R_lt (by (with_reducible repeat (first | apply Kd.R_alloc | apply Kd.R_drewN | apply Kd.R_drew)); exact HO299.out))) (below_size (by repeat (first | (with_reducible first | exact HB.out | apply below_alloc | apply pw_below_drewN | apply below_drew1) | exact HB.out)))); have n2_ := Aside0.mk (below_step (by repeat (first | (with_reducible first | exact HB.out | apply below_alloc | apply pw_below_drewN | apply below_drew1) | exact HB.out)) hb); clear HO299; clear HB; have HO299 := n0_; have HO303 := n1_; have HB := n2_; clear n0_ n1_ n2_; (try clear hb); (try clear hb2); (try clear hk); (try clear hi); (try clear ho0); obtain ⟨Ao24, co24, eo24⟩ := Kd.R_slice HO303.out; subst eo24; have p304 : 0 ≤ (7 : Int) := (by omega); have q304 : 7 < (t301.length : Int) := of_decide_eq_true (by first | (with_reducible assumption) | assumption); obtain ⟨ad304, e304, hx304_0⟩ := Kd.at_int (Kd.R_reads' HO303.out).2.2 7 p304 q304; cases e304; (try simp only [show (7 : Int).toNat = 7 from rfl, Nat.reduceMul, Nat.reduceEqDiff, Go.Addr.add, ↓reduceIte] at hx304_0); have qi304 : (7 < t301.length) = True := eq_true (by omega); (try rw [show ((7 : Int)).toNat = 7 from rfl] at hx304_0); replace p304 := eq_true p304; replace q304 := eq_true q304; have p10 : 0 ≤ (7 : Int) := (by omega); have q10 : (7 : Int) < ((t301.length : Int) : Int) := of_decide_eq_true (by first | (with_reducible assumption) | assumption); have qi10 : (7 < t301.length) = True := eq_true (by omega); obtain ⟨go10, co10, eo10, gb10, gl10, cl10, HG10⟩ := Kd.R_form HO303.out (by omega); (first | cases eo10 | (injection eo10 with ea_ en_ ec_; (first | subst ea_ | (injection ea_ with ea_; subst ea_)); subst ec_; clear en_)); have GB10 := Aside0.mk gb10; have GG10 := Aside0.mk HG10; clear gb10 gl10 HG10; (first | simp only [add_plain] at hx304_0 | skip); obtain ⟨hx10_0, hf10_0⟩ := Kd.R_celln 0 HO303.out (7 : Int) p10 q10; (try rw [show ((7 : Int)).toNat = 7 from rfl] at hx10_0); (try simp only [Nat.reduceMul, Nat.zero_mul, Nat.zero_add, Nat.reduceAdd] at hx10_0); (try rw [show ((7 : Int)).toNat = 7 from rfl] at hf10_0); (try simp only [Nat.reduceMul, Nat.zero_mul, Nat.zero_add, Nat.reduceAdd] at hf10_0); replace p10 := eq_true p10; replace q10 := eq_true q10; have n_ := Aside0.mk (Kd.R_mono (ok' := (fun k_ => some k_ ≠ (v298 : Value).ownBlock)) HO303.out (fun k_ hk => hk.2)); clear HO303; have HO303 := n_; clear n_; obtain ⟨hy25_, hz25_⟩ := Kd.R_celln 0 HO303.out (7 : Int) (by omega) (of_decide_eq_true (by first | (with_reducible assumption) | assumption)); (try simp only [Int.reduceToNat, Int.toNat_zero, Int.toNat_ofNat, Nat.reduceMul, Nat.zero_mul, Nat.zero_add] at hy25_ hz25_); (try rw [show ((7 : Int)).toNat = 7 from rfl] at hy25_); (try rw [show ((7 : Int)).toNat = 7 from rfl] at hz25_); have HP25 := Kd.R_putg HO303.out (7 : Int) (Go.bits .or .u8 (rd t301 7) ((a2 / 65536) % 256))) | ((with_reducible refine gate_store (t := 5) (p := 38) rfl ?_); refine store_event (t := 5) (p := 38) (v := ?vo_w26) (w1 := (w23.setCell ⟨go10, (7 : Int).toNat, none⟩ (.int .u8 (Go.bits .or .u8 (rd t301 7) ((a2 / 65536) % 256))))) ?hg ?ho ?hn ?hr ?_; (case ho => rfl); (case hg => rfl); (case hn => rfl); (case hr => first | (go_simp; done) | (go_simp; rfl)); intro w26 hw; have hg : w23.grownBy w26 (some go10) := (by rw [hw]; exact HP25.2); have hp_ : Kd.R (Kd.int .u8) 5 w26 w.heap.size (fun k_ => some k_ ≠ (v298 : Value).ownBlock) (.slice (some ⟨go10, 0, none⟩) t301.length co24) y305 := (by rw [hw, Ny305.out]; exact HP25.1); clear HP25; have n0_ := Aside0.mk (Kd.R_after (v := (.slice (some ⟨go10, 0, none⟩) t301.length co24)) (v1 := (.slice (some ⟨go10, 0, none⟩) t301.length co24)) (ok := (fun _ => True)) (by (with_reducible repeat (first | apply Kd.R_alloc | apply Kd.R_drewN | apply Kd.R_drew)); exact HO299.out) hg (.inl rfl)); have n1_ := Aside0.mk (hp_); have n2_ := Aside0.mk ((by rw [hw]; exact below_set (HB.out) GB10.out : Below w.heap.size w w26)); clear HO299; clear HO303; clear HB; have HO299 := n0_; have HO303 := n1_; have HB := n2_; clear n0_ n1_ n2_; clear hg hw hp_; have p12 : 0 ≤ (8 : Int) := (by omega); have q12 : (8 : Int) < ((t301.length : Int) : Int) := of_decide_eq_true (by first | (with_reducible assumption) | assumption); have qi12 : (8 < t301.length) = True := eq_true (by omega); obtain ⟨hx12_0, hf12_0⟩ := Kd.R_celln 0 HO303.out (8 : Int) p12 q12; (try rw [show ((8 : Int)).toNat = 8 from rfl] at hx12_0); (try simp only [Nat.reduceMul, Nat.zero_mul, Nat.zero_add, Nat.reduceAdd] at hx12_0); (try rw [show ((8 : Int)).toNat = 8 from rfl] at hf12_0); (try simp only [Nat.reduceMul, Nat.zero_mul, Nat.zero_add, Nat.reduceAdd] at hf12_0); replace p12 := eq_true p12; replace q12 := eq_true q12; obtain ⟨hy27_, hz27_⟩ := Kd.R_celln 0 HO303.out (8 : Int) (by omega) (of_decide_eq_true (by first | (with_reducible assumption) | assumption)); (try simp only [Int.reduceToNat, Int.toNat_zero, Int.toNat_ofNat, Nat.reduceMul, Nat.zero_mul, Nat.zero_add] at hy27_ hz27_); (try rw [show ((8 : Int)).toNat = 8 from rfl] at hy27_); (try rw [show ((8 : Int)).toNat = 8 from rfl] at hz27_); have HP27 := Kd.R_putg HO303.out (8 : Int) ((a2 / 256) % 256)) | ((with_reducible refine gate_store (t := 5) (p := 43) rfl ?_); refine store_event (t := 5) (p := 43) (v := ?vo_w28) (w1 := (w26.setCell ⟨go10, (8 : Int).toNat, none⟩ (.int .u8 ((a2 / 256) % 256)))) ?hg ?ho ?hn ?hr ?_; (case ho => rfl); (case hg => rfl); (case hn => rfl); (case hr => first | (go_simp; done) | (go_simp; rfl)); intro w28 hw; have hg : w26.grownBy w28 (some go10) := (by rw [hw]; exact HP27.2); have hp_ : Kd.R (Kd.int .u8) 5 w28 w.heap.size (fun k_ => some k_ ≠ (v298 : Value).ownBlock) (.slice (some ⟨go10, 0, none⟩) t301.length co24) y306 := (by rw [hw, Ny306.out]; exact HP27.1); clear HP27; have n0_ := Aside0.mk (Kd.R_after (v := (.slice (some ⟨go10, 0, none⟩) t301.length co24)) (v1 := (.slice (some ⟨go10, 0, none⟩) t301.length co24)) (ok := (fun _ => True)) (by (with_reducible repeat (first | apply Kd.R_alloc | apply Kd.R_drewN | apply Kd.R_drew)); exact HO299.out) hg (.inl rfl)); have n1_ := Aside0.mk (hp_); have n2_ := Aside0.mk ((by rw [hw]; exact below_set (HB.out) GB10.out : Below w.heap.size w w28)); clear HO299; clear HO303; clear HB; have HO299 := n0_; have HO303 := n1_; have HB := n2_; clear n0_ n1_ n2_; clear hg hw hp_; have p14 : 0 ≤ (9 : Int) := (by omega); have q14 : (9 : Int) < ((t301.length : Int) : Int) := of_decide_eq_true (by first | (with_reducible assumption) | assumption); have qi14 : (9 < t301.length) = True := eq_true (by omega); obtain ⟨hx14_0, hf14_0⟩ := Kd.R_celln 0 HO303.out (9 : Int) p14 q14; (try rw [show ((9 : Int)).toNat = 9 from rfl] at hx14_0); (try simp only [Nat.reduceMul, Nat.zero_mul, Nat.zero_add, Nat.reduceAdd] at hx14_0); (try rw [show ((9 : Int)).toNat = 9 from rfl] at hf14_0); (try simp only [Nat.reduceMul, Nat.zero_mul, Nat.zero_add, Nat.reduceAdd] at hf14_0); replace p14 := eq_true p14; replace q14 := eq_true q14; obtain ⟨hy29_, hz29_⟩ := Kd.R_celln 0 HO303.out (9 : Int) (by omega) (of_decide_eq_true (by first | (with_reducible assumption) | assumption)); (try simp only [Int.reduceToNat, Int.toNat_zero, Int.toNat_ofNat, Nat.reduceMul, Nat.zero_mul, Nat.zero_add] at hy29_ hz29_); (try rw [show ((9 : Int)).toNat = 9 from rfl] at hy29_); (try rw [show ((9 : Int)).toNat = 9 from rfl] at hz29_); have HP29 := Kd.R_putg HO303.out (9 : Int) ((a2) % 256)) | ((with_reducible refine gate_store (t := 5) (p := 47) rfl ?_); refine store_event (t := 5) (p := 47) (v := ?vo_w30) (w1 := (w28.setCell ⟨go10, (9 : Int).toNat, none⟩ (.int .u8 ((a2) % 256)))) ?hg ?ho ?hn ?hr ?_; (case ho => rfl); (case hg => rfl); (case hn => rfl); (case hr => first | (go_simp; done) | (go_simp; rfl)); intro w30 hw; have hg : w28.grownBy w30 (some go10) := (by rw [hw]; exact HP29.2); have hp_ : Kd.R (Kd.int .u8) 5 w30 w.heap.size (fun k_ => some k_ ≠ (v298 : Value).ownBlock) (.slice (some ⟨go10, 0, none⟩) t301.length co24) y307 := (by rw [hw, Ny307.out]; exact HP29.1); clear HP29; have n0_ := Aside0.mk (Kd.R_after (v := (.slice (some ⟨go10, 0, none⟩) t301.length co24)) (v1 := (.slice (some ⟨go10, 0, none⟩) t301.length co24)) (ok := (fun _ => True)) (by (with_reducible repeat (first | apply Kd.R_alloc | apply Kd.R_drewN | apply Kd.R_drew)); exact HO299.out) hg (.inl rfl)); have n1_ := Aside0.mk (hp_); have n2_ := Aside0.mk ((by rw [hw]; exact below_set (HB.out) GB10.out : Below w.heap.size w w30)); clear HO299; clear HO303; clear HB; have HO299 := n0_; have HO303 := n1_; have HB := n2_; clear n0_ n1_ n2_; clear hg hw hp_))
              have n0_ := Aside0.mk (Kd.R_drew HO299.out)
              have n1_ := Aside0.mk (Kd.R_drew HO303.out)
              have n2_ := Aside0.mk (below_drew1 HB.out)
              clear HO299
              clear HO303
              clear HB
              have HO299 := n0_
              have HO303 := n1_
              have HB := n2_
              clear n0_ n1_ n2_
              have hlx32 := (Kd.R_reads' HO303.out).1
              have q32 : (2 : Int) ≤ ((t301.length : Int) : Int) := of_decide_eq_true (by first | (with_reducible assumption) | assumption)
              obtain ⟨i032, hi032, _, hsz32, _⟩ := info_parts info5
              have hroom32 : t301.length ≤ co24 := (Kd.R_reads' HO303.out).2.1
              have hroomc32 : y307.length ≤ co24 := (by rw [← hlx32]; exact hroom32)
              have hC32 : Kd.C (Kd.int .u8) _ (some ⟨go10, 0, none⟩) y307.length y307 := (Kd.R_reads' HO303.out).2.2
              have hcut32 := cut_from (P := Try.prog) 29 5 .i64 Try.underlying29 hi032 1 hsz32 (some ⟨go10, 0, none⟩) t301.length co24 2 (by omega) q32
              have hr32 := Kd.C_drop (m := (2 : Int).toNat) (c := co24) hC32 (by omega) hroomc32
              obtain ⟨A32, hA32⟩ : ∃ A1, A1 = (if co24 = (2 : Int).toNat then (some ⟨go10, 0, none⟩) else ((some ⟨go10, 0, none⟩) : Option Addr).map (·.add ((2 : Int).toNat * 1))) := ⟨_, rfl⟩
              obtain ⟨c32, hc32⟩ : ∃ c1, c1 = co24 - (2 : Int).toNat := ⟨_, rfl⟩
              have hy32 : y314.length = t301.length - (2 : Int).toNat := (by rw [Ny314.out, List.length_drop] <;> omega)
              rw [show (y307).drop (2 : Int).toNat = y314 from Ny314.out.symm] at hr32
              replace hr32 : Kd.C (Kd.int .u8) _ A32 y314.length y314 := (by rw [hA32]; exact hr32)
              rw [← hy32, ← hA32, ← hc32] at hcut32
              have HR317 := Aside0.mk hr32
              have HC317 := Aside0.mk (show y314.length ≤ c32 from by rw [hy32, hc32]; exact Nat.sub_le_sub_right hroom32 _)
              clear hr32 hC32 hroom32 hi032 hsz32 hroomc32
              have KY32 := Aside0.mk hy32
              have KA32 := Aside0.mk hA32
              clear hy32 hA32
              have KE32 := Aside0.mk hlx32
              have KL32 := Aside0.mk (show 2 ≤ y307.length from by omega)
              clear hlx32
              replace q32 := eq_true q32
              have hlx33 := (Kd.R_reads' HO303.out).1
              have q33 : (2 : Int) ≤ ((t301.length : Int) : Int) := of_decide_eq_true (by first | (with_reducible assumption) | assumption)
              obtain ⟨i033, hi033, _, hsz33, _⟩ := info_parts info5
              have hroom33 : t301.length ≤ co24 := (Kd.R_reads' HO303.out).2.1
              have hroomc33 : y307.length ≤ co24 := (by rw [← hlx33]; exact hroom33)
              have hC33 : Kd.C (Kd.int .u8) _ (some ⟨go10, 0, none⟩) y307.length y307 := (Kd.R_reads' HO303.out).2.2
              have hcut33 := cut_from (P := Try.prog) 29 5 .i64 Try.underlying29 hi033 1 hsz33 (some ⟨go10, 0, none⟩) t301.length co24 2 (by omega) q33
              have hr33 := Kd.C_drop (m := (2 : Int).toNat) (c := co24) hC33 (by omega) hroomc33
              obtain ⟨A33, hA33⟩ : ∃ A1, A1 = (if co24 = (2 : Int).toNat then (some ⟨go10, 0, none⟩) else ((some ⟨go10, 0, none⟩) : Option Addr).map (·.add ((2 : Int).toNat * 1))) := ⟨_, rfl⟩
              obtain ⟨c33, hc33⟩ : ∃ c1, c1 = co24 - (2 : Int).toNat := ⟨_, rfl⟩
              have hy33 : y321.length = t301.length - (2 : Int).toNat := (by rw [Ny321.out, List.length_drop] <;> omega)
              rw [show (y307).drop (2 : Int).toNat = y321 from Ny321.out.symm] at hr33
              replace hr33 : Kd.C (Kd.int .u8) _ A33 y321.length y321 := (by rw [hA33]; exact hr33)
              rw [← hy33, ← hA33, ← hc33] at hcut33
              have HR324 := Aside0.mk hr33
              have HC324 := Aside0.mk (show y321.length ≤ c33 from by rw [hy33, hc33]; exact Nat.sub_le_sub_right hroom33 _)
              have ec_ : c32 = c33 := by rw [hc32, hc33]
              clear hr33 hC33 hroom33 hi033 hsz33 hc33 hroomc33 hc32
              have KY33 := Aside0.mk hy33
              have KA33 := Aside0.mk hA33
              clear hy33 hA33
              have eA_ : A32 = A33 := by rw [KA32.out, KA33.out]
              subst eA_
              subst ec_
              have ey_ : y314 = y321 := by rw [Ny314.out, Ny321.out]
              subst ey_
              have KE33 := Aside0.mk hlx33
              have KL33 := Aside0.mk (show 2 ≤ y307.length from by omega)
              clear hlx33
              replace q33 := eq_true q33
              refine start_ (n := 12) (S := fun w' => True) (ds := []) #[false, false, false, false, false, false, false, false, false, false, false, false] (by kernel_rfl) rfl rfl trivial (fun hHeld => ?_); refine with_tabW spec_l3Walk.tab9 spec_l3Walk.bits9 (fun HT_ HW_ => ?_)
              generalize w30.drew = w31 at HO299 HO303 HB HR317 HR324 hHeld ⊢
              refine pure_ (i := 0) (N := some 48) (v := ?_) (a' := ?_) #[true, false, false, false, false, false, false, false, false, false, false, false] rfl rfl (any_of HT_.out (by kernel_rfl)) (fun _ _ _ h => h) (Or.inl ⟨by rfl, ?_⟩) ?_ ?_
              rotate_left
              · intro w'
                go_simp
                with_reducible rfl
              rotate_left
              · simp only [Act.put, List.setIfInBounds_toArray, List.set_cons_zero, List.set_cons_succ, i64_w, i32_w]
                rfl
              refine pure_ (i := 3) (N := some 51) (v := ?_) (a' := ?_) #[true, false, false, true, false, false, false, false, false, false, false, false] rfl rfl (any_of HT_.out (by kernel_rfl)) (fun _ _ _ h => h) (Or.inl ⟨by rfl, ?_⟩) ?_ ?_
              rotate_left
              · intro w'
                go_simp
                with_reducible rfl
              rotate_left
              · simp only [Act.put, List.setIfInBounds_toArray, List.set_cons_zero, List.set_cons_succ, i64_w, i32_w]
                rfl
              refine pure_ (i := 4) (N := some 52) (v := ?_) (a' := ?_) #[true, false, false, true, true, false, false, false, false, false, false, false] rfl rfl (any_of HT_.out (by kernel_rfl)) (fun _ _ _ h => h) (Or.inl ⟨by rfl, ?_⟩) ?_ ?_
              rotate_left
              · intro w'
                go_simp
                with_reducible rfl
              rotate_left
              · simp only [Act.put, List.setIfInBounds_toArray, List.set_cons_zero, List.set_cons_succ, i64_w, i32_w]
                rfl
              refine pure_ (i := 6) (N := some 54) (v := ?_) (a' := ?_) #[true, false, false, true, true, false, true, false, false, false, false, false] rfl rfl (any_of HT_.out (by kernel_rfl)) (fun _ _ _ h => h) (Or.inl ⟨by rfl, ?_⟩) ?_ ?_
              rotate_left
              · intro w'
                go_simp
                with_reducible rfl
              rotate_left
              · simp only [Act.put, List.setIfInBounds_toArray, List.set_cons_zero, List.set_cons_succ, i64_w, i32_w]
                rfl
              refine pure_ (i := 7) (N := some 55) (v := ?_) (a' := ?_) #[true, false, false, true, true, false, true, true, false, false, false, false] rfl rfl (any_of HT_.out (by kernel_rfl)) (fun _ _ _ h => h) (Or.inl ⟨by rfl, ?_⟩) ?_ ?_
              rotate_left
              · intro w'
                go_simp
                with_reducible rfl
              rotate_left
              · simp only [Act.put, List.setIfInBounds_toArray, List.set_cons_zero, List.set_cons_succ, i64_w, i32_w]
                rfl
              refine pure_ (i := 8) (N := some 56) (v := ?_) (a' := ?_) #[true, false, false, true, true, false, true, true, true, false, false, false] rfl rfl (any_of HT_.out (by kernel_rfl)) (fun _ _ _ h => h) (Or.inl ⟨by rfl, ?_⟩) ?_ ?_
              rotate_left
              · intro w'
                go_simp
                with_reducible rfl
              rotate_left
              · simp only [Act.put, List.setIfInBounds_toArray, List.set_cons_zero, List.set_cons_succ, i64_w, i32_w]
                rfl
              refine one_ (i := 1) (N := some 49) #[true, true, false, true, true, false, true, true, true, false, false, false] rfl rfl (one_of HT_.out (by kernel_rfl)) (by decide) (fun K hK => ?_)
              refine goes_ Try.func111 (by kernel_rfl) rfl #[] (by rfl) rfl rfl (by (try simp only [List.map_toArray, List.map_cons, List.map_nil]); first | done | rfl | (simp only [List.length_drop, List.length_take]; rfl)) ?_
              with_reducible refine (spec_l3C0.calls  t308 _ A15.out).mono ?_
              rintro e w34 ⟨v309, rfl, ho0, hb⟩
              refine ⟨_, rfl, ?_⟩
              have n0_ := Aside0.mk (Kd.R_elder' (by (with_reducible repeat (first | apply Kd.R_alloc | apply Kd.R_drewN | apply Kd.R_drew)); exact HO299.out) (Kd.R_base ho0) hb)
              have n1_ := Aside0.mk (Kd.R_elder' (by (with_reducible repeat (first | apply Kd.R_alloc | apply Kd.R_drewN | apply Kd.R_drew)); exact HO303.out) (Kd.R_base ho0) hb)
              have n2_ := Aside0.mk (Kd.R_lower (Kd.R_new' (Kd.R_new' ho0 (Kd.R_lt (by (with_reducible repeat (first | apply Kd.R_alloc | apply Kd.R_drewN | apply Kd.R_drew)); exact HO299.out))) (Kd.R_lt (by (with_reducible repeat (first | apply Kd.R_alloc | apply Kd.R_drewN | apply Kd.R_drew)); exact HO303.out))) (below_size (by repeat (first | (with_reducible first | exact HB.out | apply below_alloc | apply pw_below_drewN | apply below_drew1) | exact HB.out))))
              have n3_ := Aside0.mk (Kd.C_below (by repeat (first | (with_reducible exact HR317.out) | (with_reducible refine Kd.C_alloc ?_ _) | (with_reducible refine Kd.C_drewN ?_ _) | (with_reducible refine Kd.C_drew ?_) | exact HR317.out)) hb)
              have n4_ := Aside0.mk (Kd.C_below (by repeat (first | (with_reducible exact HR324.out) | (with_reducible refine Kd.C_alloc ?_ _) | (with_reducible refine Kd.C_drewN ?_ _) | (with_reducible refine Kd.C_drew ?_) | exact HR324.out)) hb)
              have n5_ := Aside0.mk (below_step (by repeat (first | (with_reducible first | exact HB.out | apply below_alloc | apply pw_below_drewN | apply below_drew1) | exact HB.out)) hb)
              clear HO299
              clear HO303
              clear HR317
              clear HR324
              clear HB
              have HO299 := n0_
              have HO303 := n1_
              have HO310 := n2_
              have HR317 := n3_
              have HR324 := n4_
              have HB := n5_
              clear n0_ n1_ n2_ n3_ n4_ n5_
              (try clear hb)
              (try clear hb2)
              (try clear hk)
              (try clear hi)
              (try clear ho0)
              obtain ⟨Ao35, co35, eo35⟩ := Kd.R_slice HO299.out
              (first | subst eo35 | (injection eo35 with f1_ f2_ f3_; have f4_ := f1_.symm; have f5_ := f3_.symm; clear f1_ f2_ f3_; subst f4_; subst f5_))
              obtain ⟨Ao36, co36, eo36⟩ := Kd.R_slice HO310.out
              (first | subst eo36 | (injection eo36 with f1_ f2_ f3_; have f4_ := f1_.symm; have f5_ := f3_.symm; clear f1_ f2_ f3_; subst f4_; subst f5_))
              refine hK.out _ _ trivial (fun hHeld => ?_)
              clear hK K
              refine norm_ (a' := ?_) ?_ ?_
              rotate_left
              · show Act.put _ (some 49) _ = _
                simp only [Act.put, List.setIfInBounds_toArray, List.set_cons_zero, List.set_cons_succ, i64_w, i32_w]
                rfl
              refine one_ (i := 2) (N := some 50) #[true, true, true, true, true, false, true, true, true, false, false, false] rfl rfl (one_of HT_.out (by kernel_rfl)) (by decide) (fun K hK => ?_)
              refine goes_ Try.func45 (by kernel_rfl) rfl #[.slice Ao35 t297.length co35, .slice Ao36 t308.length co36] (by rfl) rfl rfl (by (try simp only [List.map_toArray, List.map_cons, List.map_nil]); first | done | rfl | (simp only [List.length_drop, List.length_take]; rfl)) ?_
              with_reducible refine (spec_l1Xor.calls k _ _ t297 _ _ t308 t311 _ ?side1 ?side2 ?side3 ?side4 A16.out).mono ?_
              (case side1 => repeat (first | exact (Kd.R_reads' HO299.out).2.2 | (with_reducible refine Kd.C_alloc ?_ _) | (with_reducible refine Kd.C_drewN ?_ _) | (with_reducible refine Kd.C_drew ?_)))
              (case side2 => exact (Kd.R_reads' HO299.out).2.1)
              (case side3 => repeat (first | exact (Kd.R_reads' HO310.out).2.2 | (with_reducible refine Kd.C_alloc ?_ _) | (with_reducible refine Kd.C_drewN ?_ _) | (with_reducible refine Kd.C_drew ?_)))
              (case side4 => exact (Kd.R_reads' HO310.out).2.1)
              rintro e w37 ⟨v312, rfl, ho0, hb⟩
              refine ⟨_, rfl, ?_⟩
              have n0_ := Aside0.mk (Kd.R_elder' (by (with_reducible repeat (first | apply Kd.R_alloc | apply Kd.R_drewN | apply Kd.R_drew)); exact HO299.out) (Kd.R_base ho0) hb)
              have n1_ := Aside0.mk (Kd.R_elder' (by (with_reducible repeat (first | apply Kd.R_alloc | apply Kd.R_drewN | apply Kd.R_drew)); exact HO303.out) (Kd.R_base ho0) hb)
              have n2_ := Aside0.mk (Kd.R_elder' (by (with_reducible repeat (first | apply Kd.R_alloc | apply Kd.R_drewN | apply Kd.R_drew)); exact HO310.out) (Kd.R_base ho0) hb)
              have n3_ := Aside0.mk (Kd.R_lower (Kd.R_new' (Kd.R_new' (Kd.R_new' ho0 (Kd.R_lt (by (with_reducible repeat (first | apply Kd.R_alloc | apply Kd.R_drewN | apply Kd.R_drew)); exact HO299.out))) (Kd.R_lt (by (with_reducible repeat (first | apply Kd.R_alloc | apply Kd.R_drewN | apply Kd.R_drew)); exact HO303.out))) (Kd.R_lt (by (with_reducible repeat (first | apply Kd.R_alloc | apply Kd.R_drewN | apply Kd.R_drew)); exact HO310.out))) (below_size (by repeat (first | (with_reducible first | exact HB.out | apply below_alloc | apply pw_below_drewN | apply below_drew1) | exact HB.out))))
              have n4_ := Aside0.mk (Kd.C_below (by repeat (first | (with_reducible exact HR317.out) | (with_reducible refine Kd.C_alloc ?_ _) | (with_reducible refine Kd.C_drewN ?_ _) | (with_reducible refine Kd.C_drew ?_) | exact HR317.out)) hb)
              have n5_ := Aside0.mk (Kd.C_below (by repeat (first | (with_reducible exact HR324.out) | (with_reducible refine Kd.C_alloc ?_ _) | (with_reducible refine Kd.C_drewN ?_ _) | (with_reducible refine Kd.C_drew ?_) | exact HR324.out)) hb)
              have n6_ := Aside0.mk (below_step (by repeat (first | (with_reducible first | exact HB.out | apply below_alloc | apply pw_below_drewN | apply below_drew1) | exact HB.out)) hb)
              clear HO299
              clear HO303
              clear HO310
              clear HR317
              clear HR324
              clear HB
              have HO299 := n0_
              have HO303 := n1_
              have HO310 := n2_
              have HO313 := n3_
              have HR317 := n4_
              have HR324 := n5_
              have HB := n6_
              clear n0_ n1_ n2_ n3_ n4_ n5_ n6_
              (try clear hb)
              (try clear hb2)
              (try clear hk)
              (try clear hi)
              (try clear ho0)
              obtain ⟨Ao38, co38, eo38⟩ := Kd.R_slice HO313.out
              (first | subst eo38 | (injection eo38 with f1_ f2_ f3_; have f4_ := f1_.symm; have f5_ := f3_.symm; clear f1_ f2_ f3_; subst f4_; subst f5_))
              refine hK.out _ _ trivial (fun hHeld => ?_)
              clear hK K
              refine norm_ (a' := ?_) ?_ ?_
              rotate_left
              · show Act.put _ (some 50) _ = _
                simp only [Act.put, List.setIfInBounds_toArray, List.set_cons_zero, List.set_cons_succ, i64_w, i32_w]
                rfl
              refine one_ (i := 5) (N := some 53) #[true, true, true, true, true, true, true, true, true, false, false, false] rfl rfl (one_of HT_.out (by kernel_rfl)) (by decide) (fun K hK => ?_)
              refine goes_ Try.func110 (by kernel_rfl) rfl #[.slice Ao38 t311.length co38, .slice A32 y314.length c32] (by rfl) rfl rfl (by (try simp only [List.map_toArray, List.map_cons, List.map_nil]); first | done | rfl | (simp only [List.length_drop, List.length_take]; rfl)) ?_
              with_reducible refine (spec_l3Half.calls k _ _ t311 _ _ y314 t318 _ ?side1 ?side2 ?side3 ?side4 A18.out).mono ?_
              (case side1 => repeat (first | exact (Kd.R_reads' HO313.out).2.2 | (with_reducible refine Kd.C_alloc ?_ _) | (with_reducible refine Kd.C_drewN ?_ _) | (with_reducible refine Kd.C_drew ?_)))
              (case side2 => exact (Kd.R_reads' HO313.out).2.1)
              (case side3 => repeat (first | exact (by repeat (first | (with_reducible exact HR317.out) | (with_reducible refine Kd.C_alloc ?_ _) | (with_reducible refine Kd.C_drewN ?_ _) | (with_reducible refine Kd.C_drew ?_) | exact HR317.out)) | (with_reducible refine Kd.C_alloc ?_ _) | (with_reducible refine Kd.C_drewN ?_ _) | (with_reducible refine Kd.C_drew ?_)))
              (case side4 => exact HC317.out)
              rintro e w39 ⟨v319, rfl, ho0, hb⟩
              refine ⟨_, rfl, ?_⟩
              have n0_ := Aside0.mk (Kd.R_elder' (by (with_reducible repeat (first | apply Kd.R_alloc | apply Kd.R_drewN | apply Kd.R_drew)); exact HO299.out) (Kd.R_base ho0) hb)
              have n1_ := Aside0.mk (Kd.R_elder' (by (with_reducible repeat (first | apply Kd.R_alloc | apply Kd.R_drewN | apply Kd.R_drew)); exact HO303.out) (Kd.R_base ho0) hb)
              have n2_ := Aside0.mk (Kd.R_elder' (by (with_reducible repeat (first | apply Kd.R_alloc | apply Kd.R_drewN | apply Kd.R_drew)); exact HO310.out) (Kd.R_base ho0) hb)
              have n3_ := Aside0.mk (Kd.R_elder' (by (with_reducible repeat (first | apply Kd.R_alloc | apply Kd.R_drewN | apply Kd.R_drew)); exact HO313.out) (Kd.R_base ho0) hb)
              have n4_ := Aside0.mk (Kd.R_lower (Kd.R_new' (Kd.R_new' (Kd.R_new' (Kd.R_new' ho0 (Kd.R_lt (by (with_reducible repeat (first | apply Kd.R_alloc | apply Kd.R_drewN | apply Kd.R_drew)); exact HO299.out))) (Kd.R_lt (by (with_reducible repeat (first | apply Kd.R_alloc | apply Kd.R_drewN | apply Kd.R_drew)); exact HO303.out))) (Kd.R_lt (by (with_reducible repeat (first | apply Kd.R_alloc | apply Kd.R_drewN | apply Kd.R_drew)); exact HO310.out))) (Kd.R_lt (by (with_reducible repeat (first | apply Kd.R_alloc | apply Kd.R_drewN | apply Kd.R_drew)); exact HO313.out))) (below_size (by repeat (first | (with_reducible first | exact HB.out | apply below_alloc | apply pw_below_drewN | apply below_drew1) | exact HB.out))))
              have n5_ := Aside0.mk (Kd.C_below (by repeat (first | (with_reducible exact HR317.out) | (with_reducible refine Kd.C_alloc ?_ _) | (with_reducible refine Kd.C_drewN ?_ _) | (with_reducible refine Kd.C_drew ?_) | exact HR317.out)) hb)
              have n6_ := Aside0.mk (Kd.C_below (by repeat (first | (with_reducible exact HR324.out) | (with_reducible refine Kd.C_alloc ?_ _) | (with_reducible refine Kd.C_drewN ?_ _) | (with_reducible refine Kd.C_drew ?_) | exact HR324.out)) hb)
              have n7_ := Aside0.mk (below_step (by repeat (first | (with_reducible first | exact HB.out | apply below_alloc | apply pw_below_drewN | apply below_drew1) | exact HB.out)) hb)
              clear HO299
              clear HO303
              clear HO310
              clear HO313
              clear HR317
              clear HR324
              clear HB
              have HO299 := n0_
              have HO303 := n1_
              have HO310 := n2_
              have HO313 := n3_
              have HO320 := n4_
              have HR317 := n5_
              have HR324 := n6_
              have HB := n7_
              clear n0_ n1_ n2_ n3_ n4_ n5_ n6_ n7_
              (try clear hb)
              (try clear hb2)
              (try clear hk)
              (try clear hi)
              (try clear ho0)
              refine hK.out _ _ trivial (fun hHeld => ?_)
              clear hK K
              refine norm_ (a' := ?_) ?_ ?_
              rotate_left
              · show Act.put _ (some 53) _ = _
                simp only [Act.put, List.setIfInBounds_toArray, List.set_cons_zero, List.set_cons_succ, i64_w, i32_w]
                rfl
              refine one_ (i := 9) (N := some 57) #[true, true, true, true, true, true, true, true, true, true, false, false] rfl rfl (one_of HT_.out (by kernel_rfl)) (by decide) (fun K hK => ?_)
              refine goes_ Try.func110 (by kernel_rfl) rfl #[.slice Ao35 t297.length co35, .slice A32 y314.length c32] (by rfl) rfl rfl (by (try simp only [List.map_toArray, List.map_cons, List.map_nil]); first | done | rfl | (simp only [List.length_drop, List.length_take]; rfl)) ?_
              with_reducible refine (spec_l3Half.calls k _ _ t297 _ _ y314 t325 _ ?side1 ?side2 ?side3 ?side4 A20.out).mono ?_
              (case side1 => repeat (first | exact (Kd.R_reads' HO299.out).2.2 | (with_reducible refine Kd.C_alloc ?_ _) | (with_reducible refine Kd.C_drewN ?_ _) | (with_reducible refine Kd.C_drew ?_)))
              (case side2 => exact (Kd.R_reads' HO299.out).2.1)
              (case side3 => repeat (first | exact (by repeat (first | (with_reducible exact HR324.out) | (with_reducible refine Kd.C_alloc ?_ _) | (with_reducible refine Kd.C_drewN ?_ _) | (with_reducible refine Kd.C_drew ?_) | exact HR324.out)) | (with_reducible refine Kd.C_alloc ?_ _) | (with_reducible refine Kd.C_drewN ?_ _) | (with_reducible refine Kd.C_drew ?_)))
              (case side4 => exact HC324.out)
              rintro e w40 ⟨v326, rfl, ho0, hb⟩
              refine ⟨_, rfl, ?_⟩
              have n0_ := Aside0.mk (Kd.R_elder' (by (with_reducible repeat (first | apply Kd.R_alloc | apply Kd.R_drewN | apply Kd.R_drew)); exact HO299.out) (Kd.R_base ho0) hb)
              have n1_ := Aside0.mk (Kd.R_elder' (by (with_reducible repeat (first | apply Kd.R_alloc | apply Kd.R_drewN | apply Kd.R_drew)); exact HO303.out) (Kd.R_base ho0) hb)
              have n2_ := Aside0.mk (Kd.R_elder' (by (with_reducible repeat (first | apply Kd.R_alloc | apply Kd.R_drewN | apply Kd.R_drew)); exact HO310.out) (Kd.R_base ho0) hb)
              have n3_ := Aside0.mk (Kd.R_elder' (by (with_reducible repeat (first | apply Kd.R_alloc | apply Kd.R_drewN | apply Kd.R_drew)); exact HO313.out) (Kd.R_base ho0) hb)
              have n4_ := Aside0.mk (Kd.R_elder' (by (with_reducible repeat (first | apply Kd.R_alloc | apply Kd.R_drewN | apply Kd.R_drew)); exact HO320.out) (Kd.R_base ho0) hb)
              have n5_ := Aside0.mk (Kd.R_lower (Kd.R_new' (Kd.R_new' (Kd.R_new' (Kd.R_new' (Kd.R_new' ho0 (Kd.R_lt (by (with_reducible repeat (first | apply Kd.R_alloc | apply Kd.R_drewN | apply Kd.R_drew)); exact HO299.out))) (Kd.R_lt (by (with_reducible repeat (first | apply Kd.R_alloc | apply Kd.R_drewN | apply Kd.R_drew)); exact HO303.out))) (Kd.R_lt (by (with_reducible repeat (first | apply Kd.R_alloc | apply Kd.R_drewN | apply Kd.R_drew)); exact HO310.out))) (Kd.R_lt (by (with_reducible repeat (first | apply Kd.R_alloc | apply Kd.R_drewN | apply Kd.R_drew)); exact HO313.out))) (Kd.R_lt (by (with_reducible repeat (first | apply Kd.R_alloc | apply Kd.R_drewN | apply Kd.R_drew)); exact HO320.out))) (below_size (by repeat (first | (with_reducible first | exact HB.out | apply below_alloc | apply pw_below_drewN | apply below_drew1) | exact HB.out))))
              have n6_ := Aside0.mk (Kd.C_below (by repeat (first | (with_reducible exact HR317.out) | (with_reducible refine Kd.C_alloc ?_ _) | (with_reducible refine Kd.C_drewN ?_ _) | (with_reducible refine Kd.C_drew ?_) | exact HR317.out)) hb)
              have n7_ := Aside0.mk (Kd.C_below (by repeat (first | (with_reducible exact HR324.out) | (with_reducible refine Kd.C_alloc ?_ _) | (with_reducible refine Kd.C_drewN ?_ _) | (with_reducible refine Kd.C_drew ?_) | exact HR324.out)) hb)
              have n8_ := Aside0.mk (below_step (by repeat (first | (with_reducible first | exact HB.out | apply below_alloc | apply pw_below_drewN | apply below_drew1) | exact HB.out)) hb)
              clear HO299
              clear HO303
              clear HO310
              clear HO313
              clear HO320
              clear HR317
              clear HR324
              clear HB
              have HO299 := n0_
              have HO303 := n1_
              have HO310 := n2_
              have HO313 := n3_
              have HO320 := n4_
              have HO327 := n5_
              have HR317 := n6_
              have HR324 := n7_
              have HB := n8_
              clear n0_ n1_ n2_ n3_ n4_ n5_ n6_ n7_ n8_
              (try clear hb)
              (try clear hb2)
              (try clear hk)
              (try clear hi)
              (try clear ho0)
              obtain ⟨Ao42, co42, eo42⟩ := Kd.R_slice HO327.out
              (first | subst eo42 | (injection eo42 with f1_ f2_ f3_; have f4_ := f1_.symm; have f5_ := f3_.symm; clear f1_ f2_ f3_; subst f4_; subst f5_))
              refine hK.out _ _ trivial (fun hHeld => ?_)
              clear hK K
              refine norm_ (a' := ?_) ?_ ?_
              rotate_left
              · show Act.put _ (some 57) _ = _
                simp only [Act.put, List.setIfInBounds_toArray, List.set_cons_zero, List.set_cons_succ, i64_w, i32_w]
                rfl
              refine one_ (i := 10) (N := some 58) #[true, true, true, true, true, true, true, true, true, true, true, false] rfl rfl (one_of HT_.out (by kernel_rfl)) (by decide) (fun K hK => ?_)
              refine Kd.R_append_rows_step (Kd.int .u8) (w0 := w) w.heap.size (by rfl) (.tmp 53) (.tmp 57) 29 5 (.int .u8 0) 1 rfl Try.underlying29 info5 rfl (by decide) (by omega) v319 t318 t325 _ _ _ (fun k_ => some k_ ≠ (.slice Ao35 t297.length co35 : Value).ownBlock ∧ some k_ ≠ (.slice (some ⟨go10, 0, none⟩) t301.length co24 : Value).ownBlock ∧ some k_ ≠ (.slice Ao36 t308.length co36 : Value).ownBlock ∧ some k_ ≠ (.slice Ao38 t311.length co38 : Value).ownBlock ∧ some k_ ≠ (.slice Ao42 t325.length co42 : Value).ownBlock) (fun _ => False) rfl rfl ?aO ?aR (fun _ _ h => h) (fun _ h => h.elim) ?aF ?aB ?aS ?aL ?_
              (case aR => repeat (first | exact (Kd.R_reads' HO327.out).2.2 | (with_reducible refine Kd.C_alloc ?_ _) | (with_reducible refine Kd.C_drewN ?_ _) | (with_reducible refine Kd.C_drew ?_)))
              (case aB => exact (by repeat (first | (with_reducible first | exact HB.out | apply below_alloc | apply pw_below_drewN | apply below_drew1) | exact HB.out)))
              (case aF => exact (fun k_ hk => ⟨Kd.fresh' (Kd.R_lt (by (with_reducible repeat (first | apply Kd.R_alloc | apply Kd.R_drewN | apply Kd.R_drew)); exact HO299.out)) k_ hk, Kd.fresh' (Kd.R_lt (by (with_reducible repeat (first | apply Kd.R_alloc | apply Kd.R_drewN | apply Kd.R_drew)); exact HO303.out)) k_ hk, Kd.fresh' (Kd.R_lt (by (with_reducible repeat (first | apply Kd.R_alloc | apply Kd.R_drewN | apply Kd.R_drew)); exact HO310.out)) k_ hk, Kd.fresh' (Kd.R_lt (by (with_reducible repeat (first | apply Kd.R_alloc | apply Kd.R_drewN | apply Kd.R_drew)); exact HO313.out)) k_ hk, Kd.fresh' (Kd.R_lt (by (with_reducible repeat (first | apply Kd.R_alloc | apply Kd.R_drewN | apply Kd.R_drew)); exact HO327.out)) k_ hk⟩))
              (case aO => exact (by (with_reducible repeat (first | apply Kd.R_alloc | apply Kd.R_drewN | apply Kd.R_drew)); exact Kd.R_mono HO320.out (fun _ hk => ⟨hk.1.1.1.1.2, ⟨hk.1.1.1.2, ⟨hk.1.1.2, ⟨hk.1.2, hk.2⟩⟩⟩⟩)))
              (case aS => exact (below_size (by repeat (first | (with_reducible first | exact HB.out | apply below_alloc | apply pw_below_drewN | apply below_drew1) | exact HB.out))))
              (case aL => have := LMc21.out; omega)
              intro v329 w41 ho hb hg hat
              rw [← Ny328.out] at ho
              have n0_ := Aside0.mk (Kd.R_after (ok := (fun k_ => some k_ ≠ (.slice (some ⟨go10, 0, none⟩) t301.length co24 : Value).ownBlock ∧ some k_ ≠ (.slice Ao36 t308.length co36 : Value).ownBlock ∧ some k_ ≠ (.slice Ao38 t311.length co38 : Value).ownBlock ∧ some k_ ≠ (.slice Ao42 t325.length co42 : Value).ownBlock)) (by (with_reducible repeat (first | apply Kd.R_alloc | apply Kd.R_drewN | apply Kd.R_drew)); exact Kd.R_mono HO299.out (fun _ hk => ⟨⟨hk.1.1.1.1.2, ⟨hk.1.1.1.2, ⟨hk.1.1.2, hk.2⟩⟩⟩, hk.1.2⟩)) hg hat)
              have n1_ := Aside0.mk (Kd.R_after (ok := (fun k_ => some k_ ≠ (.slice Ao35 t297.length co35 : Value).ownBlock ∧ some k_ ≠ (.slice Ao36 t308.length co36 : Value).ownBlock ∧ some k_ ≠ (.slice Ao38 t311.length co38 : Value).ownBlock ∧ some k_ ≠ (.slice Ao42 t325.length co42 : Value).ownBlock)) (by (with_reducible repeat (first | apply Kd.R_alloc | apply Kd.R_drewN | apply Kd.R_drew)); exact Kd.R_mono HO303.out (fun _ hk => ⟨⟨hk.1.1.1.1, ⟨hk.1.1.1.2, ⟨hk.1.1.2, hk.2⟩⟩⟩, hk.1.2⟩)) hg hat)
              have n2_ := Aside0.mk (Kd.R_after (ok := (fun k_ => some k_ ≠ (.slice Ao35 t297.length co35 : Value).ownBlock ∧ some k_ ≠ (.slice (some ⟨go10, 0, none⟩) t301.length co24 : Value).ownBlock ∧ some k_ ≠ (.slice Ao38 t311.length co38 : Value).ownBlock ∧ some k_ ≠ (.slice Ao42 t325.length co42 : Value).ownBlock)) (by (with_reducible repeat (first | apply Kd.R_alloc | apply Kd.R_drewN | apply Kd.R_drew)); exact Kd.R_mono HO310.out (fun _ hk => ⟨⟨hk.1.1.1.1.2, ⟨hk.1.1.1.2, ⟨hk.1.1.2, hk.2⟩⟩⟩, hk.1.2⟩)) hg hat)
              have n3_ := Aside0.mk (Kd.R_after (ok := (fun k_ => some k_ ≠ (.slice Ao35 t297.length co35 : Value).ownBlock ∧ some k_ ≠ (.slice (some ⟨go10, 0, none⟩) t301.length co24 : Value).ownBlock ∧ some k_ ≠ (.slice Ao36 t308.length co36 : Value).ownBlock ∧ some k_ ≠ (.slice Ao42 t325.length co42 : Value).ownBlock)) (by (with_reducible repeat (first | apply Kd.R_alloc | apply Kd.R_drewN | apply Kd.R_drew)); exact Kd.R_mono HO313.out (fun _ hk => ⟨⟨hk.1.1.1.1.2, ⟨hk.1.1.1.2, ⟨hk.1.1.2, hk.2⟩⟩⟩, hk.1.2⟩)) hg hat)
              have n4_ := Aside0.mk (Kd.R_after (ok := (fun k_ => some k_ ≠ (.slice Ao35 t297.length co35 : Value).ownBlock ∧ some k_ ≠ (.slice (some ⟨go10, 0, none⟩) t301.length co24 : Value).ownBlock ∧ some k_ ≠ (.slice Ao36 t308.length co36 : Value).ownBlock ∧ some k_ ≠ (.slice Ao38 t311.length co38 : Value).ownBlock)) (by (with_reducible repeat (first | apply Kd.R_alloc | apply Kd.R_drewN | apply Kd.R_drew)); exact Kd.R_mono HO327.out (fun _ hk => ⟨⟨hk.1.1.1.1.2, ⟨hk.1.1.1.2, ⟨hk.1.1.2, hk.1.2⟩⟩⟩, hk.2⟩)) hg hat)
              have n5_ := Aside0.mk (hb)
              have n6_ := Aside0.mk ((show Kd.C (Kd.int .u8) w41 A32 y314.length y314 from by rw [Ny314.out, KA32.out]; exact Kd.C_drop (m := 2) (c := co24) ((Kd.R_reads' (Kd.R_after (ok := (fun k_ => some k_ ≠ (.slice Ao35 t297.length co35 : Value).ownBlock ∧ some k_ ≠ (.slice Ao36 t308.length co36 : Value).ownBlock ∧ some k_ ≠ (.slice Ao38 t311.length co38 : Value).ownBlock ∧ some k_ ≠ (.slice Ao42 t325.length co42 : Value).ownBlock)) (by (with_reducible repeat (first | apply Kd.R_alloc | apply Kd.R_drewN | apply Kd.R_drew)); exact Kd.R_mono HO303.out (fun _ hk => ⟨⟨hk.1.1.1.1, ⟨hk.1.1.1.2, ⟨hk.1.1.2, hk.2⟩⟩⟩, hk.1.2⟩)) hg hat)).2.2) KL32.out (by rw [← KE32.out]; exact (Kd.R_reads' (Kd.R_after (ok := (fun k_ => some k_ ≠ (.slice Ao35 t297.length co35 : Value).ownBlock ∧ some k_ ≠ (.slice Ao36 t308.length co36 : Value).ownBlock ∧ some k_ ≠ (.slice Ao38 t311.length co38 : Value).ownBlock ∧ some k_ ≠ (.slice Ao42 t325.length co42 : Value).ownBlock)) (by (with_reducible repeat (first | apply Kd.R_alloc | apply Kd.R_drewN | apply Kd.R_drew)); exact Kd.R_mono HO303.out (fun _ hk => ⟨⟨hk.1.1.1.1, ⟨hk.1.1.1.2, ⟨hk.1.1.2, hk.2⟩⟩⟩, hk.1.2⟩)) hg hat)).2.1)))
              have n7_ := Aside0.mk ((show Kd.C (Kd.int .u8) w41 A32 y314.length y314 from by rw [Ny321.out, KA33.out]; exact Kd.C_drop (m := 2) (c := co24) ((Kd.R_reads' (Kd.R_after (ok := (fun k_ => some k_ ≠ (.slice Ao35 t297.length co35 : Value).ownBlock ∧ some k_ ≠ (.slice Ao36 t308.length co36 : Value).ownBlock ∧ some k_ ≠ (.slice Ao38 t311.length co38 : Value).ownBlock ∧ some k_ ≠ (.slice Ao42 t325.length co42 : Value).ownBlock)) (by (with_reducible repeat (first | apply Kd.R_alloc | apply Kd.R_drewN | apply Kd.R_drew)); exact Kd.R_mono HO303.out (fun _ hk => ⟨⟨hk.1.1.1.1, ⟨hk.1.1.1.2, ⟨hk.1.1.2, hk.2⟩⟩⟩, hk.1.2⟩)) hg hat)).2.2) KL33.out (by rw [← KE33.out]; exact (Kd.R_reads' (Kd.R_after (ok := (fun k_ => some k_ ≠ (.slice Ao35 t297.length co35 : Value).ownBlock ∧ some k_ ≠ (.slice Ao36 t308.length co36 : Value).ownBlock ∧ some k_ ≠ (.slice Ao38 t311.length co38 : Value).ownBlock ∧ some k_ ≠ (.slice Ao42 t325.length co42 : Value).ownBlock)) (by (with_reducible repeat (first | apply Kd.R_alloc | apply Kd.R_drewN | apply Kd.R_drew)); exact Kd.R_mono HO303.out (fun _ hk => ⟨⟨hk.1.1.1.1, ⟨hk.1.1.1.2, ⟨hk.1.1.2, hk.2⟩⟩⟩, hk.1.2⟩)) hg hat)).2.1)))
              have n8_ := Aside0.mk (ho)
              clear HO299
              clear HO303
              clear HO310
              clear HO313
              clear HO327
              clear HB
              clear HR317
              clear HR324
              clear HO320
              have HO299 := n0_
              have HO303 := n1_
              have HO310 := n2_
              have HO313 := n3_
              have HO327 := n4_
              have HB := n5_
              have HR317 := n6_
              have HR324 := n7_
              have HO330 := n8_
              clear n0_ n1_ n2_ n3_ n4_ n5_ n6_ n7_ n8_
              clear ho hb hg hat
              refine hK.out _ _ trivial (fun hHeld => ?_)
              clear hK K
              refine norm_ (a' := ?_) ?_ ?_
              rotate_left
              · show Act.put _ (some 58) _ = _
                simp only [Act.put, List.setIfInBounds_toArray, List.set_cons_zero, List.set_cons_succ, i64_w, i32_w]
                rfl
              refine pure_ (i := 11) (N := some 6) (v := ?_) (a' := ?_) #[true, true, true, true, true, true, true, true, true, true, true, true] rfl rfl (any_of HT_.out (by kernel_rfl)) (fun _ _ _ h => h) (Or.inl ⟨by rfl, ?_⟩) ?_ ?_
              rotate_left
              · intro w'
                go_simp
                with_reducible rfl
              rotate_left
              · simp only [Act.put, List.setIfInBounds_toArray, List.set_cons_zero, List.set_cons_succ, i64_w, i32_w]
                rfl
              refine done_ (done_of HT_.out (by kernel_rfl)) ?_
              try go_wp2
              go_ret
              exact ⟨_, by first | rfl | (simp [errW_none, errW_some] <;> rfl) | (simp [*, errW_none, errW_some] <;> rfl), by (with_reducible repeat (first | apply Kd.R_alloc | apply Kd.R_drewN | apply Kd.R_drew)); exact Kd.R_mono HO330.out (fun _ hk => trivial), by repeat (first | (with_reducible first | exact HB.out | apply below_alloc | apply pw_below_drewN | apply below_drew1) | exact HB.out)⟩
            · rw [if_neg c21] at H
              exact absurd H (by simp)
          · rw [if_neg c17] at H
            exact absurd H (by simp)
        · rw [if_neg c13] at H
          exact absurd H (by simp)
      · rw [if_neg c11] at H
        exact absurd H (by simp)
    · rw [if_neg c9] at H
      exact absurd H (by simp)

def spec_DukptKey.j0 : Nat → List Int → List Int → Bool → Option (List Int)
  | 0, _, _, _ => none
  | k + 1, x0, x1, x14 => if x14 = true then (some ([] : List Int)) else ((spec_l3Count.f x1).bind fun bt331 => ((spec_l3Walk.f k x0 x1 bt331.1).bind fun t335 => (some t335)))
def spec_DukptKey.f (k : Nat) (l0 : List Int) (l1 : List Int) : Option (List Int) := if (l0.length : Int) = 16 then (spec_DukptKey.j0 k l0 l1 ((l1.length : Int) != 10)) else (spec_DukptKey.j0 k l0 l1 true)
set_option maxHeartbeats 8000000 in
set_option maxRecDepth 100000 in
theorem spec_DukptKey.calls (k : Nat) (A0 : Option Addr) (c0 : Nat) (l0 : List Int) (A1 : Option Addr) (c1 : Nat) (l1 : List Int) (r : List Int) (w : World) (hr0 : Kd.C (Kd.int .u8) w A0 l0.length l0) (hc0 : l0.length ≤ c0) (hr1 : Kd.C (Kd.int .u8) w A1 l1.length l1) (hc1 : l1.length ≤ c1) (h : spec_DukptKey.f k l0 l1 = some r) :
    Calls Try.prog 90 #[.slice A0 l0.length c0, .slice A1 l1.length c1] w fun e w' => ∃ v0_ : Value, e = .returned (v0_) ∧ Kd.R (Kd.int .u8) 5 w' w.heap.size (fun _ => True) v0_ r ∧ Below w.heap.size w w' := by
  have HR0 := Aside0.mk hr0
  have HC0 := Aside0.mk hc0
  clear hr0 hc0
  have HR1 := Aside0.mk hr1
  have HC1 := Aside0.mk hc1
  clear hr1 hc1
  have HB := Aside0.mk (Below.refl w.heap.size w)
  have H : (if (l0.length : Int) = 16 then (spec_DukptKey.j0 k l0 l1 ((l1.length : Int) != 10)) else (spec_DukptKey.j0 k l0 l1 true)) = some r := h
  clear h
  have HC3 := Aside0.mk H
  clear H
  go_enter Try.func90, Try.ntmps90
  go_upto_region 1 with (fail)
  go_cut [14] (fun v14 wc => ∃ (kq : Nat) (x14_2 : Bool), v14 = .bool x14_2 ∧ Aside0 (spec_DukptKey.j0 kq l0 l1 x14_2 = some r) ∧ Aside0 (kq ≤ k) ∧ Aside0 (Below w.heap.size w wc))
  case first =>
    have H := HC3.out
    clear HC3
    by_cases c4 : (l0.length : Int) = 16
    · rw [if_pos c4] at H
      have c4b0 : ((l0.length : Int) == 16) = true := beq_iff_eq.mpr c4
      have c4b1 : ((l0.length : Int) != 16) = false := bne_eq_false_iff_eq.mpr c4
      clear c4
      (first | rw [c4b0] | (simp only [i64_w, i32_w]; rw [c4b0]) | skip)
      have H' := Aside0.mk H
      clear H
      go_wp2
      go_meet
      case rel => exact ⟨_, (((l1.length : Int) != 10)), (by first | rfl | (simp; done) | (simp [*]; done)), H', ⟨by first | omega | exact Nat.le_refl _⟩, ⟨by repeat (first | (with_reducible first | exact HB.out | apply below_alloc | apply pw_below_drewN | apply below_drew1) | exact HB.out)⟩⟩
    · rw [if_neg c4] at H
      have c4b0 : ((l0.length : Int) == 16) = false := beq_eq_false_iff_ne.mpr c4
      have c4b1 : ((l0.length : Int) != 16) = true := bne_iff_ne.mpr c4
      (first | rw [c4b0] | (simp only [i64_w, i32_w]; rw [c4b0]) | skip)
      have H' := Aside0.mk H
      clear H
      go_wp2
      go_meet
      case rel => exact ⟨_, (true), (by first | rfl | (simp; done) | (simp [*]; done)), H', ⟨by first | omega | exact Nat.le_refl _⟩, ⟨by repeat (first | (with_reducible first | exact HB.out | apply below_alloc | apply pw_below_drewN | apply below_drew1) | exact HB.out)⟩⟩
  case rest =>
    clear HC3
    try clear c1
    try clear p2
    try clear c4
    try clear c4b0
    try clear c4b1
    obtain ⟨kq, x14_2, rfl, HA, HJ2, HB⟩ := hcut
    cases kq with
    | zero => exact absurd HA.out (by simp [spec_DukptKey.j0])
    | succ kj2 =>
      have H := HA.out
      clear HA
      simp only [spec_DukptKey.j0] at H
      by_cases c5 : x14_2 = true
      · subst c5
        have H1 : (some ([] : List Int)) = some r := by rw [if_pos rfl] at H; exact H
        clear H
        have H := H1
        clear H1
        obtain rfl := Option.some.inj H
        go_wp2
        go_ret
        exact ⟨_, by first | rfl | (simp [errW_none, errW_some] <;> rfl) | (simp [*, errW_none, errW_some] <;> rfl), by first | exact Kd.R_nil _ _ _ _ _ | exact Kd.N_nil _ _ _ _ _ | exact Kd.V_nil _ _ _ _ _ | exact Kd.Q_nil _ _ _ _ _ | exact Kd.S_nil _ _ _ _ _, by repeat (first | (with_reducible first | exact HB.out | apply below_alloc | apply pw_below_drewN | apply below_drew1) | exact HB.out)⟩
      · replace c5 := Bool.eq_false_iff.mpr c5
        subst c5
        have H1 : ((spec_l3Count.f l1).bind fun bt331 => ((spec_l3Walk.f kj2 l0 l1 bt331.1).bind fun t335 => (some t335))) = some r := by rw [if_neg (show ¬ (false = true) by decide)] at H; exact H
        clear H
        have H := H1
        clear H1
        replace H := Option.bind_eq_some_iff.mp H
        obtain ⟨⟨t331, t332⟩, A60, H⟩ := H
        replace H : ((spec_l3Walk.f kj2 l0 l1 t331).bind fun t335 => (some t335)) = some r := H
        have A6 := Aside0.mk A60
        clear A60
        replace H := Option.bind_eq_some_iff.mp H
        obtain ⟨t335, A70, H⟩ := H
        replace H : (some t335) = some r := H
        have A7 := Aside0.mk A70
        clear A70
        obtain rfl := Option.some.inj H
        go_wp2_with (first | ((with_reducible refine gate_callee (f := 103) rfl ?_); refine goesL_ (some 17) rfl rfl Try.func103 (by kernel_rfl) rfl #[.slice A1 l1.length c1] rfl (by (try simp only [List.map_toArray, List.map_cons, List.map_nil]); first | done | rfl | (simp only [List.length_drop, List.length_take]; rfl)) ?_; (with_reducible refine (spec_l3Count.calls _ _ l1 t331 t332 _ ?side1 ?side2 A6.out).mono ?_); (case side1 => repeat (first | exact (Kd.C_below HR1.out HB.out) | (with_reducible refine Kd.C_alloc ?_ _) | (with_reducible refine Kd.C_drewN ?_ _) | (with_reducible refine Kd.C_drew ?_))); (case side2 => exact HC1.out); rintro e w8 ⟨v333, rfl, ho0, hb⟩; refine ⟨_, rfl, ?_⟩; have n0_ := Aside0.mk (Kd.R_lower ho0 (below_size (by repeat (first | (with_reducible first | exact HB.out | apply below_alloc | apply pw_below_drewN | apply below_drew1) | exact HB.out)))); have n1_ := Aside0.mk (below_step (by repeat (first | (with_reducible first | exact HB.out | apply below_alloc | apply pw_below_drewN | apply below_drew1) | exact HB.out)) hb); clear HB; have HO334 := n0_; have HB := n1_; clear n0_ n1_; (try clear hb); (try clear hb2); (try clear hk); (try clear hi); (try clear ho0)) | ((with_reducible refine gate_callee (f := 104) rfl ?_); refine goesL_ (some 23) rfl rfl Try.func104 (by kernel_rfl) rfl #[.slice A0 l0.length c0, .slice A1 l1.length c1, .int .i64 t331] rfl (by (try simp only [List.map_toArray, List.map_cons, List.map_nil]); first | done | rfl | (simp only [List.length_drop, List.length_take]; rfl)) ?_; (with_reducible refine (spec_l3Walk.calls kj2 _ _ l0 _ _ l1 t331 t335 _ ?side1 ?side2 ?side3 ?side4 A7.out).mono ?_); (case side1 => repeat (first | exact (Kd.C_below HR0.out HB.out) | (with_reducible refine Kd.C_alloc ?_ _) | (with_reducible refine Kd.C_drewN ?_ _) | (with_reducible refine Kd.C_drew ?_))); (case side2 => exact HC0.out); (case side3 => repeat (first | exact (Kd.C_below HR1.out HB.out) | (with_reducible refine Kd.C_alloc ?_ _) | (with_reducible refine Kd.C_drewN ?_ _) | (with_reducible refine Kd.C_drew ?_))); (case side4 => exact HC1.out); rintro e w9 ⟨v336, rfl, ho0, hb⟩; refine ⟨_, rfl, ?_⟩; have n0_ := Aside0.mk (Kd.R_elder' (by (with_reducible repeat (first | apply Kd.R_alloc | apply Kd.R_drewN | apply Kd.R_drew)); exact HO334.out) (Kd.R_base ho0) hb); have n1_ := Aside0.mk (Kd.R_lower (Kd.R_new' ho0 (Kd.R_lt (by (with_reducible repeat (first | apply Kd.R_alloc | apply Kd.R_drewN | apply Kd.R_drew)); exact HO334.out))) (below_size (by repeat (first | (with_reducible first | exact HB.out | apply below_alloc | apply pw_below_drewN | apply below_drew1) | exact HB.out)))); have n2_ := Aside0.mk (below_step (by repeat (first | (with_reducible first | exact HB.out | apply below_alloc | apply pw_below_drewN | apply below_drew1) | exact HB.out)) hb); clear HO334; clear HB; have HO334 := n0_; have HO337 := n1_; have HB := n2_; clear n0_ n1_ n2_; (try clear hb); (try clear hb2); (try clear hk); (try clear hi); (try clear ho0)))
        go_ret
        exact ⟨_, by first | rfl | (simp [errW_none, errW_some] <;> rfl) | (simp [*, errW_none, errW_some] <;> rfl), by (with_reducible repeat (first | apply Kd.R_alloc | apply Kd.R_drewN | apply Kd.R_drew)); exact Kd.R_mono HO337.out (fun _ hk => trivial), by repeat (first | (with_reducible first | exact HB.out | apply below_alloc | apply pw_below_drewN | apply below_drew1) | exact HB.out)⟩

def spec_l1Mul.l0 : Nat → Int → Int → Int → Option (Int)
  | 0, _, _, _ => none
  | k + 1, x0, x1, x5 => if x1 > 0 then (if (Go.bits .and .u8 x1 1) = 1 then (spec_l1Mul.l0 k (Go.bits .xor .u8 ((x0 * 2) % 256) (((x0 / 128) * 27) % 256)) (x1 / 2) (Go.bits .xor .u8 x5 x0)) else (spec_l1Mul.l0 k (Go.bits .xor .u8 ((x0 * 2) % 256) (((x0 / 128) * 27) % 256)) (x1 / 2) x5)) else (some x5)
def spec_l1Mul.f (k : Nat) (a0 : Int) (a1 : Int) : Option (Int) := spec_l1Mul.l0 k a0 a1 0
theorem spec_l1Mul.mono_l : ∀ k, (∀ y0 y1 y2, LeO (spec_l1Mul.l0 k y0 y1 y2) (spec_l1Mul.l0 (k + 1) y0 y1 y2))
  | 0 => fun _ _ _ r h => by simp [spec_l1Mul.l0] at h
  | k + 1 => by
    have ih0 := spec_l1Mul.mono_l k
    · intro y0 y1 y2
      unfold spec_l1Mul.l0
      repeat' first
      | (with_reducible exact ih0 _ _ _)
      | (with_reducible exact LeO.refl _)
      | (with_reducible exact LeO.none _)
      | (with_reducible refine LeO.ite ?_ ?_)
      | (with_reducible refine LeO.bind ?_ (fun _ => ?_))
      | exact ih0 _ _ _
      | exact LeO.none _
      | refine LeO.ite ?_ ?_
      | refine LeO.bind ?_ (fun _ => ?_)
theorem spec_l1Mul.mono : ∀ a0 a1 k, LeO (spec_l1Mul.f k a0 a1) (spec_l1Mul.f (k + 1) a0 a1) := by
  intro a0 a1 k
  have ih0 := spec_l1Mul.mono_l k
  unfold spec_l1Mul.f
  repeat' first
      | (with_reducible exact ih0 _ _ _)
      | (with_reducible exact LeO.refl _)
      | (with_reducible exact LeO.none _)
      | (with_reducible refine LeO.ite ?_ ?_)
      | (with_reducible refine LeO.bind ?_ (fun _ => ?_))
      | exact ih0 _ _ _
      | exact LeO.none _
      | refine LeO.ite ?_ ?_
      | refine LeO.bind ?_ (fun _ => ?_)
set_option maxHeartbeats 8000000 in
set_option maxRecDepth 100000 in
theorem spec_l1Mul.calls (k : Nat) (a0 : Int) (a1 : Int) (r : Int) (w : World) (h : spec_l1Mul.f k a0 a1 = some r) :
    Calls Try.prog 122 #[.int .u8 a0, .int .u8 a1] w fun e w' => e = .returned (.int .u8 r) ∧ Drawn0 w w' := by
  have H : (spec_l1Mul.l0 k a0 a1 0) = some r := h
  clear h
  have H' := Aside0.mk H
  clear H
  go_enter Try.func122, Try.ntmps122
  go_wp2
  go_loopg [0, 1, 5] k (fun kq v0 v1 v5 w' => ∃ (x0_1 : Int) (x1_1 : Int) (x5_1 : Int), v0 = .int .u8 x0_1 ∧ v1 = .int .u8 x1_1 ∧ v5 = .int .u8 x5_1 ∧ Aside0 (spec_l1Mul.l0 kq x0_1 x1_1 x5_1 = some r) ∧ Aside0 (kq ≤ k) ∧ Drawn0 w w')
  case atStart => exact ⟨(a0), (a1), (0), (by first | rfl | (simp; done) | (simp [*]; done)), (by first | rfl | (simp; done) | (simp [*]; done)), (by first | rfl | (simp; done) | (simp [*]; done)), H', ⟨Nat.le_refl _⟩, by repeat (first | exact Drawn0.refl _ | apply Drawn0.step)⟩
  case round =>
    clear H'
    try clear c1
    try clear p2
    obtain ⟨x0_1, x1_1, x5_1, rfl, rfl, rfl, HA, HK1, ⟨m1, rfl⟩⟩ := hrel
    cases gk with
    | zero => exact absurd HA.out (by simp [spec_l1Mul.l0])
    | succ k1 =>
      have H := HA.out
      clear HA
      simp only [spec_l1Mul.l0] at H
      by_cases c3 : x1_1 > 0
      · rw [if_pos c3] at H
        have c3b0 : decide (0 < x1_1) = true := decide_eq_true c3
        clear c3
        by_cases c4 : (Go.bits .and .u8 x1_1 1) = 1
        · rw [if_pos c4] at H
          have c4b0 : ((Go.bits .and .u8 x1_1 1) == 1) = true := beq_iff_eq.mpr c4
          have c4b1 : ((Go.bits .and .u8 x1_1 1) != 1) = false := bne_eq_false_iff_eq.mpr c4
          clear c4
          have H' := Aside0.mk H
          clear H
          go_wp2
          go_roundg k1
          case measure => have := HK1.out; omega
          case rel => exact ⟨(Go.bits .xor .u8 ((x0_1 * 2) % 256) (((x0_1 / 128) * 27) % 256)), (x1_1 / 2), (Go.bits .xor .u8 x5_1 x0_1), (by first | rfl | (simp; done) | (simp [*]; done)), (by first | rfl | (simp; done) | (simp [*]; done)), (by first | rfl | (simp; done) | (simp [*]; done)), H', ⟨by have := HK1.out; omega⟩, by repeat (first | exact Drawn0.refl _ | apply Drawn0.step)⟩
        · rw [if_neg c4] at H
          have c4b0 : ((Go.bits .and .u8 x1_1 1) == 1) = false := beq_eq_false_iff_ne.mpr c4
          have c4b1 : ((Go.bits .and .u8 x1_1 1) != 1) = true := bne_iff_ne.mpr c4
          have H' := Aside0.mk H
          clear H
          go_wp2
          go_roundg k1
          case measure => have := HK1.out; omega
          case rel => exact ⟨(Go.bits .xor .u8 ((x0_1 * 2) % 256) (((x0_1 / 128) * 27) % 256)), (x1_1 / 2), (x5_1), (by first | rfl | (simp; done) | (simp [*]; done)), (by first | rfl | (simp; done) | (simp [*]; done)), (by first | rfl | (simp; done) | (simp [*]; done)), H', ⟨by have := HK1.out; omega⟩, by repeat (first | exact Drawn0.refl _ | apply Drawn0.step)⟩
      · rw [if_neg c3] at H
        have c3b0 : decide (0 < x1_1) = false := decide_eq_false c3
        clear c3
        obtain rfl := Option.some.inj H
        go_wp2
        go_ret
        exact ⟨by first | rfl | (simp; done) | (simp [*]; done), by repeat (first | exact Drawn0.refl _ | apply Drawn0.step)⟩

def spec_l1Inverse.l0 : Nat → Int → Int → Int → Option (Int)
  | 0, _, _, _ => none
  | k + 1, x0, x3, x4 => if x4 < 7 then ((spec_l1Mul.f k x0 x0).bind fun t338 => ((spec_l1Mul.f k x3 t338).bind fun t339 => (spec_l1Inverse.l0 k t338 t339 (wrap64 (x4 + 1))))) else (some x3)
def spec_l1Inverse.f (k : Nat) (a0 : Int) : Option (Int) := spec_l1Inverse.l0 k a0 1 0
theorem spec_l1Inverse.mono_l : ∀ k, (∀ y0 y1 y2, LeO (spec_l1Inverse.l0 k y0 y1 y2) (spec_l1Inverse.l0 (k + 1) y0 y1 y2))
  | 0 => fun _ _ _ r h => by simp [spec_l1Inverse.l0] at h
  | k + 1 => by
    have ih0 := spec_l1Inverse.mono_l k
    · intro y0 y1 y2
      unfold spec_l1Inverse.l0
      repeat' first
      | (with_reducible exact ih0 _ _ _)
      | (with_reducible exact spec_l1Mul.mono _ _ _)
      | (with_reducible exact LeO.refl _)
      | (with_reducible exact LeO.none _)
      | (with_reducible refine LeO.ite ?_ ?_)
      | (with_reducible refine LeO.bind ?_ (fun _ => ?_))
      | exact ih0 _ _ _
      | exact spec_l1Mul.mono _ _ _
      | exact LeO.none _
      | refine LeO.ite ?_ ?_
      | refine LeO.bind ?_ (fun _ => ?_)
theorem spec_l1Inverse.mono : ∀ a0 k, LeO (spec_l1Inverse.f k a0) (spec_l1Inverse.f (k + 1) a0) := by
  intro a0 k
  have ih0 := spec_l1Inverse.mono_l k
  unfold spec_l1Inverse.f
  repeat' first
      | (with_reducible exact ih0 _ _ _)
      | (with_reducible exact spec_l1Mul.mono _ _ _)
      | (with_reducible exact LeO.refl _)
      | (with_reducible exact LeO.none _)
      | (with_reducible refine LeO.ite ?_ ?_)
      | (with_reducible refine LeO.bind ?_ (fun _ => ?_))
      | exact ih0 _ _ _
      | exact spec_l1Mul.mono _ _ _
      | exact LeO.none _
      | refine LeO.ite ?_ ?_
      | refine LeO.bind ?_ (fun _ => ?_)
set_option maxHeartbeats 8000000 in
set_option maxRecDepth 100000 in
theorem spec_l1Inverse.calls (k : Nat) (a0 : Int) (r : Int) (w : World) (h : spec_l1Inverse.f k a0 = some r) :
    Calls Try.prog 125 #[.int .u8 a0] w fun e w' => e = .returned (.int .u8 r) ∧ Drawn0 w w' := by
  have H : (spec_l1Inverse.l0 k a0 1 0) = some r := h
  clear h
  have H' := Aside0.mk H
  clear H
  go_enter Try.func125, Try.ntmps125
  go_wp2
  go_loopg [0, 3, 4] k (fun kq v0 v3 v4 w' => ∃ (x0_1 : Int) (x3_1 : Int) (x4_1 : Int), v0 = .int .u8 x0_1 ∧ v3 = .int .u8 x3_1 ∧ v4 = .int .i64 x4_1 ∧ Aside0 (spec_l1Inverse.l0 kq x0_1 x3_1 x4_1 = some r) ∧ Aside0 (kq ≤ k) ∧ Drawn0 w w')
  case atStart => exact ⟨(a0), (1), (0), (by first | rfl | (simp; done) | (simp [*]; done)), (by first | rfl | (simp; done) | (simp [*]; done)), (by first | rfl | (simp; done) | (simp [*]; done)), H', ⟨Nat.le_refl _⟩, by repeat (first | exact Drawn0.refl _ | apply Drawn0.step)⟩
  case round =>
    clear H'
    try clear c1
    obtain ⟨x0_1, x3_1, x4_1, rfl, rfl, rfl, HA, HK1, ⟨m1, rfl⟩⟩ := hrel
    cases gk with
    | zero => exact absurd HA.out (by simp [spec_l1Inverse.l0])
    | succ k1 =>
      have H := HA.out
      clear HA
      simp only [spec_l1Inverse.l0] at H
      by_cases c2 : x4_1 < 7
      · rw [if_pos c2] at H
        have c2b0 : decide (x4_1 < 7) = true := decide_eq_true c2
        clear c2
        replace H := Option.bind_eq_some_iff.mp H
        obtain ⟨t338, A30, H⟩ := H
        replace H : ((spec_l1Mul.f k1 x3_1 t338).bind fun t339 => (spec_l1Inverse.l0 k1 t338 t339 (wrap64 (x4_1 + 1)))) = some r := H
        have A3 := Aside0.mk A30
        clear A30
        replace H := Option.bind_eq_some_iff.mp H
        obtain ⟨t339, A40, H⟩ := H
        replace H : (spec_l1Inverse.l0 k1 t338 t339 (wrap64 (x4_1 + 1))) = some r := H
        have A4 := Aside0.mk A40
        clear A40
        have H' := Aside0.mk H
        clear H
        go_wp2_with (first | ((with_reducible refine gate_callee (f := 122) rfl ?_); refine goesL_ (some 11) rfl rfl Try.func122 (by kernel_rfl) rfl #[.int .u8 x0_1, .int .u8 x0_1] rfl (by (try simp only [List.map_toArray, List.map_cons, List.map_nil]); first | done | rfl | (simp only [List.length_drop, List.length_take]; rfl)) ?_; (with_reducible refine (spec_l1Mul.calls k1 x0_1 x0_1 t338 _ A3.out).mono ?_); rintro e w' ⟨rfl, ⟨nd, rfl⟩⟩; refine ⟨_, rfl, ?_⟩) | ((with_reducible refine gate_callee (f := 122) rfl ?_); refine goesL_ (some 14) rfl rfl Try.func122 (by kernel_rfl) rfl #[.int .u8 x3_1, .int .u8 t338] rfl (by (try simp only [List.map_toArray, List.map_cons, List.map_nil]); first | done | rfl | (simp only [List.length_drop, List.length_take]; rfl)) ?_; (with_reducible refine (spec_l1Mul.calls k1 x3_1 t338 t339 _ A4.out).mono ?_); rintro e w' ⟨rfl, ⟨nd, rfl⟩⟩; refine ⟨_, rfl, ?_⟩))
        go_roundg k1
        case measure => have := HK1.out; omega
        case rel => exact ⟨(t338), (t339), (wrap64 (x4_1 + 1)), (by first | rfl | (simp; done) | (simp [*]; done)), (by first | rfl | (simp; done) | (simp [*]; done)), (by first | rfl | (simp; done) | (simp [*]; done)), H', ⟨by have := HK1.out; omega⟩, by repeat (first | exact Drawn0.refl _ | apply Drawn0.step)⟩
      · rw [if_neg c2] at H
        have c2b0 : decide (x4_1 < 7) = false := decide_eq_false c2
        clear c2
        obtain rfl := Option.some.inj H
        go_wp2
        go_ret
        exact ⟨by first | rfl | (simp; done) | (simp [*]; done), by repeat (first | exact Drawn0.refl _ | apply Drawn0.step)⟩

def spec_l1Turn.f (a0 : Int) (a1 : Int) : Option (Int) := if 0 ≤ (IntKind.u64.wrap (a1)) then (if 0 ≤ (IntKind.u64.wrap (wrap64 (8 - a1))) then (some (Go.bits .or .u8 (shl .u8 a0 (IntKind.u64.wrap (a1))) (shr .u8 a0 (IntKind.u64.wrap (wrap64 (8 - a1)))))) else (none)) else (none)
set_option maxHeartbeats 8000000 in
set_option maxRecDepth 100000 in
theorem spec_l1Turn.calls (a0 : Int) (a1 : Int) (r : Int) (w : World) (h : spec_l1Turn.f a0 a1 = some r) :
    Calls Try.prog 126 #[.int .u8 a0, .int .i64 a1] w fun e w' => e = .returned (.int .u8 r) ∧ Drawn0 w w' := by
  have H : (if 0 ≤ (IntKind.u64.wrap (a1)) then (if 0 ≤ (IntKind.u64.wrap (wrap64 (8 - a1))) then (some (Go.bits .or .u8 (shl .u8 a0 (IntKind.u64.wrap (a1))) (shr .u8 a0 (IntKind.u64.wrap (wrap64 (8 - a1)))))) else (none)) else (none)) = some r := h
  clear h
  obtain ⟨ji3, hji3⟩ : ∃ j_ : Int, (IntKind.u64.wrap (a1)) = j_ := ⟨_, rfl⟩
  replace H : (if 0 ≤ (ji3) then (if 0 ≤ (IntKind.u64.wrap (wrap64 (8 - a1))) then (some (Go.bits .or .u8 (shl .u8 a0 (ji3)) (shr .u8 a0 (IntKind.u64.wrap (wrap64 (8 - a1)))))) else (none)) else (none)) = some r := by first | (rw [hji3] at H; exact H) | (simp only [hji3] at H ⊢; exact H)
  by_cases c4 : 0 ≤ (ji3)
  · rw [if_pos c4] at H
    have c4b0 := eq_true c4
    have c4b1 : decide (0 ≤ (ji3)) = true := decide_eq_true c4
    clear c4
    obtain ⟨ji5, hji5⟩ : ∃ j_ : Int, (shl .u8 a0 (ji3)) = j_ := ⟨_, rfl⟩
    replace H : (if 0 ≤ (IntKind.u64.wrap (wrap64 (8 - a1))) then (some (Go.bits .or .u8 (ji5) (shr .u8 a0 (IntKind.u64.wrap (wrap64 (8 - a1)))))) else (none)) = some r := by first | (rw [hji5] at H; exact H) | (simp only [hji5] at H ⊢; exact H)
    have hji5_ : (IntKind.u8.wrap (a0 * 2 ^ min (ji3).toNat 8)) = ji5 := hji5
    have hji5z : (ji3) ≤ 8 → (IntKind.u8.wrap (a0 * 2 ^ (ji3).toNat)) = ji5 := shl_small hji5
    obtain ⟨ji6, hji6⟩ : ∃ j_ : Int, (IntKind.u64.wrap (wrap64 (8 - a1))) = j_ := ⟨_, rfl⟩
    replace H : (if 0 ≤ (ji6) then (some (Go.bits .or .u8 (ji5) (shr .u8 a0 (ji6)))) else (none)) = some r := by first | (rw [hji6] at H; exact H) | (simp only [hji6] at H ⊢; exact H)
    by_cases c7 : 0 ≤ (ji6)
    · rw [if_pos c7] at H
      have c7b0 := eq_true c7
      have c7b1 : decide (0 ≤ (ji6)) = true := decide_eq_true c7
      clear c7
      obtain ⟨ji8, hji8⟩ : ∃ j_ : Int, (shr .u8 a0 (ji6)) = j_ := ⟨_, rfl⟩
      replace H : (some (Go.bits .or .u8 (ji5) (ji8))) = some r := by first | (rw [hji8] at H; exact H) | (simp only [hji8] at H ⊢; exact H)
      have hji8_ : (a0 / 2 ^ min (ji6).toNat 8) = ji8 := hji8
      have hji8z : (ji6) ≤ 8 → (a0 / 2 ^ (ji6).toNat) = ji8 := shr_small hji8
      obtain rfl := Option.some.inj H
      go_enter Try.func126, Try.ntmps126
      go_wp2
      go_ret
      exact ⟨by first | rfl | (simp; done) | (simp only [← hji3, ← hji5, ← hji6, ← hji8] <;> (first | rfl | simp)) | (simp [*]; done), by repeat (first | exact Drawn0.refl _ | apply Drawn0.step)⟩
    · rw [if_neg c7] at H
      exact absurd H (by simp)
  · rw [if_neg c4] at H
    exact absurd H (by simp)

def spec_l1Sub.f (k : Nat) (a0 : Int) : Option (Int) := (spec_l1Inverse.f k a0).bind fun t340 => ((spec_l1Turn.f t340 1).bind fun t341 => ((spec_l1Turn.f t340 2).bind fun t342 => ((spec_l1Turn.f t340 3).bind fun t343 => ((spec_l1Turn.f t340 4).bind fun t344 => (some (Go.bits .xor .u8 (Go.bits .xor .u8 (Go.bits .xor .u8 (Go.bits .xor .u8 (Go.bits .xor .u8 t340 t341) t342) t343) t344) 99))))))
theorem spec_l1Sub.mono : ∀ a0 k, LeO (spec_l1Sub.f k a0) (spec_l1Sub.f (k + 1) a0) := by
  intro a0 k
  unfold spec_l1Sub.f
  repeat' first
      | (with_reducible exact spec_l1Inverse.mono _ _)
      | (with_reducible exact LeO.refl _)
      | (with_reducible exact LeO.none _)
      | (with_reducible refine LeO.ite ?_ ?_)
      | (with_reducible refine LeO.bind ?_ (fun _ => ?_))
      | exact spec_l1Inverse.mono _ _
      | exact LeO.none _
      | refine LeO.ite ?_ ?_
      | refine LeO.bind ?_ (fun _ => ?_)
set_option maxHeartbeats 8000000 in
set_option maxRecDepth 100000 in
theorem spec_l1Sub.calls (k : Nat) (a0 : Int) (r : Int) (w : World) (h : spec_l1Sub.f k a0 = some r) :
    Calls Try.prog 114 #[.int .u8 a0] w fun e w' => e = .returned (.int .u8 r) ∧ Drawn0 w w' := by
  have H : ((spec_l1Inverse.f k a0).bind fun t340 => ((spec_l1Turn.f t340 1).bind fun t341 => ((spec_l1Turn.f t340 2).bind fun t342 => ((spec_l1Turn.f t340 3).bind fun t343 => ((spec_l1Turn.f t340 4).bind fun t344 => (some (Go.bits .xor .u8 (Go.bits .xor .u8 (Go.bits .xor .u8 (Go.bits .xor .u8 (Go.bits .xor .u8 t340 t341) t342) t343) t344) 99))))))) = some r := h
  clear h
  replace H := Option.bind_eq_some_iff.mp H
  obtain ⟨t340, A20, H⟩ := H
  replace H : ((spec_l1Turn.f t340 1).bind fun t341 => ((spec_l1Turn.f t340 2).bind fun t342 => ((spec_l1Turn.f t340 3).bind fun t343 => ((spec_l1Turn.f t340 4).bind fun t344 => (some (Go.bits .xor .u8 (Go.bits .xor .u8 (Go.bits .xor .u8 (Go.bits .xor .u8 (Go.bits .xor .u8 t340 t341) t342) t343) t344) 99)))))) = some r := H
  have A2 := Aside0.mk A20
  clear A20
  replace H := Option.bind_eq_some_iff.mp H
  obtain ⟨t341, A30, H⟩ := H
  replace H : ((spec_l1Turn.f t340 2).bind fun t342 => ((spec_l1Turn.f t340 3).bind fun t343 => ((spec_l1Turn.f t340 4).bind fun t344 => (some (Go.bits .xor .u8 (Go.bits .xor .u8 (Go.bits .xor .u8 (Go.bits .xor .u8 (Go.bits .xor .u8 t340 t341) t342) t343) t344) 99))))) = some r := H
  have A3 := Aside0.mk A30
  clear A30
  replace H := Option.bind_eq_some_iff.mp H
  obtain ⟨t342, A40, H⟩ := H
  replace H : ((spec_l1Turn.f t340 3).bind fun t343 => ((spec_l1Turn.f t340 4).bind fun t344 => (some (Go.bits .xor .u8 (Go.bits .xor .u8 (Go.bits .xor .u8 (Go.bits .xor .u8 (Go.bits .xor .u8 t340 t341) t342) t343) t344) 99)))) = some r := H
  have A4 := Aside0.mk A40
  clear A40
  replace H := Option.bind_eq_some_iff.mp H
  obtain ⟨t343, A50, H⟩ := H
  replace H : ((spec_l1Turn.f t340 4).bind fun t344 => (some (Go.bits .xor .u8 (Go.bits .xor .u8 (Go.bits .xor .u8 (Go.bits .xor .u8 (Go.bits .xor .u8 t340 t341) t342) t343) t344) 99))) = some r := H
  have A5 := Aside0.mk A50
  clear A50
  replace H := Option.bind_eq_some_iff.mp H
  obtain ⟨t344, A60, H⟩ := H
  replace H : (some (Go.bits .xor .u8 (Go.bits .xor .u8 (Go.bits .xor .u8 (Go.bits .xor .u8 (Go.bits .xor .u8 t340 t341) t342) t343) t344) 99)) = some r := H
  have A6 := Aside0.mk A60
  clear A60
  obtain rfl := Option.some.inj H
  go_enter Try.func114, Try.ntmps114
  go_wp2_with (first | ((with_reducible refine gate_callee (f := 125) rfl ?_); refine goesL_ (some 5) rfl rfl Try.func125 (by kernel_rfl) rfl #[.int .u8 a0] rfl (by (try simp only [List.map_toArray, List.map_cons, List.map_nil]); first | done | rfl | (simp only [List.length_drop, List.length_take]; rfl)) ?_; (with_reducible refine (spec_l1Inverse.calls k a0 t340 _ A2.out).mono ?_); rintro e w' ⟨rfl, ⟨nd, rfl⟩⟩; refine ⟨_, rfl, ?_⟩) | ((with_reducible refine gate_callee (f := 126) rfl ?_); refine goesL_ (some 8) rfl rfl Try.func126 (by kernel_rfl) rfl #[.int .u8 t340, .int .i64 1] rfl (by (try simp only [List.map_toArray, List.map_cons, List.map_nil]); first | done | rfl | (simp only [List.length_drop, List.length_take]; rfl)) ?_; (with_reducible refine (spec_l1Turn.calls t340 1 t341 _ A3.out).mono ?_); rintro e w' ⟨rfl, ⟨nd, rfl⟩⟩; refine ⟨_, rfl, ?_⟩) | ((with_reducible refine gate_callee (f := 126) rfl ?_); refine goesL_ (some 11) rfl rfl Try.func126 (by kernel_rfl) rfl #[.int .u8 t340, .int .i64 2] rfl (by (try simp only [List.map_toArray, List.map_cons, List.map_nil]); first | done | rfl | (simp only [List.length_drop, List.length_take]; rfl)) ?_; (with_reducible refine (spec_l1Turn.calls t340 2 t342 _ A4.out).mono ?_); rintro e w' ⟨rfl, ⟨nd, rfl⟩⟩; refine ⟨_, rfl, ?_⟩) | ((with_reducible refine gate_callee (f := 126) rfl ?_); refine goesL_ (some 14) rfl rfl Try.func126 (by kernel_rfl) rfl #[.int .u8 t340, .int .i64 3] rfl (by (try simp only [List.map_toArray, List.map_cons, List.map_nil]); first | done | rfl | (simp only [List.length_drop, List.length_take]; rfl)) ?_; (with_reducible refine (spec_l1Turn.calls t340 3 t343 _ A5.out).mono ?_); rintro e w' ⟨rfl, ⟨nd, rfl⟩⟩; refine ⟨_, rfl, ?_⟩) | ((with_reducible refine gate_callee (f := 126) rfl ?_); refine goesL_ (some 17) rfl rfl Try.func126 (by kernel_rfl) rfl #[.int .u8 t340, .int .i64 4] rfl (by (try simp only [List.map_toArray, List.map_cons, List.map_nil]); first | done | rfl | (simp only [List.length_drop, List.length_take]; rfl)) ?_; (with_reducible refine (spec_l1Turn.calls t340 4 t344 _ A6.out).mono ?_); rintro e w' ⟨rfl, ⟨nd, rfl⟩⟩; refine ⟨_, rfl, ?_⟩))
  go_ret
  exact ⟨by first | rfl | (simp; done) | (simp [*]; done), by repeat (first | exact Drawn0.refl _ | apply Drawn0.step)⟩

end Go.Proofs.Ytiejallnkgllnaa.LQ
namespace Go.Proofs.Ytiejallnkgllnaa.LQ
open Go.RowKit Go.Proofs.YtiejallnkgllnaaW.PrintWords Go.Proofs.YtiejallnkgllnaaW.PrintLast Go.Proofs.YtiejallnkgllnaaW.PrintMore
attribute [local go_sem] max2_int min2_int max_two min_two max_three min_three max_four min_four   -- for this text's walks alone
set_option linter.unusedVariables false
set_option linter.unusedSimpArgs false

def spec_l1Words.l0 : Nat → List Int → Int → Int → Option (List Int)
  | 0, _, _, _ => none
  | k + 1, x3, x4, x5 => if x5 < 44 then (if 0 ≤ (wrap64 ((wrap64 (4 * x5)) - 4)) then (if (wrap64 ((wrap64 (4 * x5)) - 4)) ≤ (wrap64 (4 * x5)) then (if (wrap64 (4 * x5)) ≤ (x3.length : Int) then ((spec_l1Bytes.f ((x3.take ((wrap64 (4 * x5)) : Int).toNat).drop ((wrap64 ((wrap64 (4 * x5)) - 4)) : Int).toNat)).bind fun t352 => (if (Int.tmod x5 4) = 0 then (if 1 < (t352.length : Int) then ((spec_l1Sub.f k (rd t352 1)).bind fun t356 => (if 2 < (t352.length : Int) then ((spec_l1Sub.f k (rd t352 2)).bind fun t358 => (if 3 < (t352.length : Int) then ((spec_l1Sub.f k (rd t352 3)).bind fun t360 => (if 0 < (t352.length : Int) then ((spec_l1Sub.f k (rd t352 0)).bind fun t362 => ((spec_l1Mul.f k x4 2).bind fun t366 => (if 0 ≤ (wrap64 ((wrap64 (4 * x5)) - 16)) then (if (wrap64 ((wrap64 (4 * x5)) - 16)) ≤ (wrap64 ((wrap64 (4 * x5)) - 12)) then (if (wrap64 ((wrap64 (4 * x5)) - 12)) ≤ (x3.length : Int) then ((spec_l1Xor.f k ((x3.take ((wrap64 ((wrap64 (4 * x5)) - 12)) : Int).toNat).drop ((wrap64 ((wrap64 (4 * x5)) - 16)) : Int).toNat) (([Go.bits .xor .u8 t356 x4, t358, t360, t362] : List Int))).bind fun t371 => (if x3.length + t371.length < 140737488355328 then (spec_l1Words.l0 k (x3 ++ t371) t366 (wrap64 (x5 + 1))) else (none))) else (none)) else (none)) else (none)))) else (none))) else (none))) else (none))) else (none)) else (if 0 ≤ (wrap64 ((wrap64 (4 * x5)) - 16)) then (if (wrap64 ((wrap64 (4 * x5)) - 16)) ≤ (wrap64 ((wrap64 (4 * x5)) - 12)) then (if (wrap64 ((wrap64 (4 * x5)) - 12)) ≤ (x3.length : Int) then ((spec_l1Xor.f k ((x3.take ((wrap64 ((wrap64 (4 * x5)) - 12)) : Int).toNat).drop ((wrap64 ((wrap64 (4 * x5)) - 16)) : Int).toNat) t352).bind fun t381 => (if x3.length + t381.length < 140737488355328 then (spec_l1Words.l0 k (x3 ++ t381) x4 (wrap64 (x5 + 1))) else (none))) else (none)) else (none)) else (none)))) else (none)) else (none)) else (none)) else (some x3)
def spec_l1Words.f (k : Nat) (l0 : List Int) : Option (List Int) := (spec_l1Bytes.f l0).bind fun t345 => (spec_l1Words.l0 k t345 1 4)
def spec_l1Words.T8 : Bool × List (List Nat × List Nat) := (true, [([], []), ([0], [0]), ([1], [1]), ([2], [2]), ([], []), ([3, 4], [3, 4]), ([], []), ([6], [6]), ([7], [7]), ([8, 3], [8]), ([], []), ([10], [10]), ([11], [11]), ([12, 9], [12]), ([], []), ([14], [14]), ([15], [15]), ([16, 13], [16]), ([5, 9, 13, 17], [5, 9, 13, 17]), ([18, 17, 0, 1, 2, 3, 4, 5, 6, 7, 8, 9, 10, 11, 12, 13, 14, 15, 16, 17, 18], [0, 6, 10, 14, 18])])
def spec_l1Words.B8 : List Nat := [0, 1, 3, 7, 0, 31, 0, 64, 192, 463, 0, 1024, 3072, 8143, 0, 16384, 49152, 131023, 262143, 524287]
theorem spec_l1Words.tab8 : rtab .any (opsOf Try.f112 8) = spec_l1Words.T8 := by kernel_rfl
theorem spec_l1Words.bits8 : waitsOk spec_l1Words.T8.2 spec_l1Words.B8 = true := by kernel_rfl
set_option maxHeartbeats 8000000 in
set_option maxRecDepth 100000 in
theorem spec_l1Words.calls (k : Nat) (A0 : Option Addr) (c0 : Nat) (l0 : List Int) (r : List Int) (w : World) (hr0 : Kd.C (Kd.int .u8) w A0 l0.length l0) (hc0 : l0.length ≤ c0) (h : spec_l1Words.f k l0 = some r) :
    Calls Try.prog 112 #[.slice A0 l0.length c0] w fun e w' => ∃ v0_ : Value, e = .returned (v0_) ∧ Kd.R (Kd.int .u8) 5 w' w.heap.size (fun _ => True) v0_ r ∧ Below w.heap.size w w' := by
  have HR0 := Aside0.mk hr0
  have HC0 := Aside0.mk hc0
  clear hr0 hc0
  have HB := Aside0.mk (Below.refl w.heap.size w)
  have H : ((spec_l1Bytes.f l0).bind fun t345 => (spec_l1Words.l0 k t345 1 4)) = some r := h
  clear h
  replace H := Option.bind_eq_some_iff.mp H
  obtain ⟨t345, A20, H⟩ := H
  replace H : (spec_l1Words.l0 k t345 1 4) = some r := H
  have A2 := Aside0.mk A20
  clear A20
  have H' := Aside0.mk H
  clear H
  go_enter Try.func112, Try.ntmps112
  go_wp2_with (first | ((with_reducible refine gate_callee (f := 97) rfl ?_); refine goesL_ (some 8) rfl rfl Try.func97 (by kernel_rfl) rfl #[.slice A0 l0.length c0] rfl (by (try simp only [List.map_toArray, List.map_cons, List.map_nil]); first | done | rfl | (simp only [List.length_drop, List.length_take]; rfl)) ?_; (with_reducible refine (spec_l1Bytes.calls _ _ l0 t345 _ ?side1 ?side2 A2.out).mono ?_); (case side1 => repeat (first | exact HR0.out | (with_reducible refine Kd.C_alloc ?_ _) | (with_reducible refine Kd.C_drewN ?_ _) | (with_reducible refine Kd.C_drew ?_))); (case side2 => exact HC0.out); rintro e w3 ⟨v346, rfl, ho0, hb⟩; refine ⟨_, rfl, ?_⟩; have n0_ := Aside0.mk (Kd.R_lower ho0 (below_size (by repeat (first | (with_reducible first | exact HB.out | apply below_alloc | apply pw_below_drewN | apply below_drew1) | exact HB.out)))); have n1_ := Aside0.mk (below_step (by repeat (first | (with_reducible first | exact HB.out | apply below_alloc | apply pw_below_drewN | apply below_drew1) | exact HB.out)) hb); clear HB; have HO347 := n0_; have HB := n1_; clear n0_ n1_; (try clear hb); (try clear hb2); (try clear hk); (try clear hi); (try clear ho0)))
  go_loopg [3, 4, 5] k (fun kq v3 v4 v5 w' => ∃ (x3_1 : List Int) (x4_1 : Int) (x5_1 : Int), v4 = .int .u8 x4_1 ∧ v5 = .int .i64 x5_1 ∧ Aside0 (spec_l1Words.l0 kq x3_1 x4_1 x5_1 = some r) ∧ Aside0 (kq ≤ k) ∧ Aside0 (Kd.R (Kd.int .u8) 5 w' w.heap.size (fun _ => True) v3 x3_1) ∧ Aside0 (Below w.heap.size w w'))
  case atStart => exact ⟨(t345), (1), (4), (by first | rfl | (simp; done) | (simp [*]; done)), (by first | rfl | (simp; done) | (simp [*]; done)), H', ⟨Nat.le_refl _⟩, ⟨by (with_reducible repeat (first | apply Kd.R_alloc | apply Kd.R_drewN | apply Kd.R_drew)); exact HO347.out⟩, ⟨by repeat (first | (with_reducible first | exact HB.out | apply below_alloc | apply pw_below_drewN | apply below_drew1) | exact HB.out)⟩⟩
  case round =>
    clear H'
    try clear c1
    try clear p2
    obtain ⟨x3_1, x4_1, x5_1, rfl, rfl, HA, HK1, HO_3, HB⟩ := hrel
    cases gk with
    | zero => exact absurd HA.out (by simp [spec_l1Words.l0])
    | succ k1 =>
      have H := HA.out
      clear HA
      simp only [spec_l1Words.l0] at H
      by_cases c4 : x5_1 < 44
      · rw [if_pos c4] at H
        have c4b0 : decide (x5_1 < 44) = true := decide_eq_true c4
        clear c4
        obtain ⟨ji5, hji5⟩ : ∃ j_ : Int, (wrap64 ((wrap64 (4 * x5_1)) - 4)) = j_ := ⟨_, rfl⟩
        replace H : (if 0 ≤ (ji5) then (if (ji5) ≤ (wrap64 (4 * x5_1)) then (if (wrap64 (4 * x5_1)) ≤ (x3_1.length : Int) then ((spec_l1Bytes.f ((x3_1.take ((wrap64 (4 * x5_1)) : Int).toNat).drop ((ji5) : Int).toNat)).bind fun t352 => (if (Int.tmod x5_1 4) = 0 then (if 1 < (t352.length : Int) then ((spec_l1Sub.f k1 (rd t352 1)).bind fun t356 => (if 2 < (t352.length : Int) then ((spec_l1Sub.f k1 (rd t352 2)).bind fun t358 => (if 3 < (t352.length : Int) then ((spec_l1Sub.f k1 (rd t352 3)).bind fun t360 => (if 0 < (t352.length : Int) then ((spec_l1Sub.f k1 (rd t352 0)).bind fun t362 => ((spec_l1Mul.f k1 x4_1 2).bind fun t366 => (if 0 ≤ (wrap64 ((wrap64 (4 * x5_1)) - 16)) then (if (wrap64 ((wrap64 (4 * x5_1)) - 16)) ≤ (wrap64 ((wrap64 (4 * x5_1)) - 12)) then (if (wrap64 ((wrap64 (4 * x5_1)) - 12)) ≤ (x3_1.length : Int) then ((spec_l1Xor.f k1 ((x3_1.take ((wrap64 ((wrap64 (4 * x5_1)) - 12)) : Int).toNat).drop ((wrap64 ((wrap64 (4 * x5_1)) - 16)) : Int).toNat) (([Go.bits .xor .u8 t356 x4_1, t358, t360, t362] : List Int))).bind fun t371 => (if x3_1.length + t371.length < 140737488355328 then (spec_l1Words.l0 k1 (x3_1 ++ t371) t366 (wrap64 (x5_1 + 1))) else (none))) else (none)) else (none)) else (none)))) else (none))) else (none))) else (none))) else (none)) else (if 0 ≤ (wrap64 ((wrap64 (4 * x5_1)) - 16)) then (if (wrap64 ((wrap64 (4 * x5_1)) - 16)) ≤ (wrap64 ((wrap64 (4 * x5_1)) - 12)) then (if (wrap64 ((wrap64 (4 * x5_1)) - 12)) ≤ (x3_1.length : Int) then ((spec_l1Xor.f k1 ((x3_1.take ((wrap64 ((wrap64 (4 * x5_1)) - 12)) : Int).toNat).drop ((wrap64 ((wrap64 (4 * x5_1)) - 16)) : Int).toNat) t352).bind fun t381 => (if x3_1.length + t381.length < 140737488355328 then (spec_l1Words.l0 k1 (x3_1 ++ t381) x4_1 (wrap64 (x5_1 + 1))) else (none))) else (none)) else (none)) else (none)))) else (none)) else (none)) else (none)) = some r := by first | (rw [hji5] at H; exact H) | (simp only [hji5] at H ⊢; exact H)
        have hji5w : (IntKind.i64.wrap ((wrap64 (4 * x5_1)) - 4)) = ji5 := (i64_w _).trans hji5
        by_cases c6 : 0 ≤ (ji5)
        · rw [if_pos c6] at H
          have c6b0 := eq_true c6
          have c6b1 : decide (0 ≤ (ji5)) = true := decide_eq_true c6
          clear c6
          by_cases c7 : (ji5) ≤ (wrap64 (4 * x5_1))
          · rw [if_pos c7] at H
            have c7b0 := eq_true c7
            have c7b1 : decide ((ji5) ≤ (wrap64 (4 * x5_1))) = true := decide_eq_true c7
            clear c7
            by_cases c8 : (wrap64 (4 * x5_1)) ≤ (x3_1.length : Int)
            · rw [if_pos c8] at H
              have c8b0 := eq_true c8
              have c8b1 : decide ((wrap64 (4 * x5_1)) ≤ (x3_1.length : Int)) = true := decide_eq_true c8
              clear c8
              obtain ⟨y348, hy348⟩ : ∃ y_ : List Int, y_ = ((x3_1.take ((wrap64 (4 * x5_1)) : Int).toNat).drop ((ji5) : Int).toNat) := ⟨_, rfl⟩
              replace H : ((spec_l1Bytes.f y348).bind fun t352 => (if (Int.tmod x5_1 4) = 0 then (if 1 < (t352.length : Int) then ((spec_l1Sub.f k1 (rd t352 1)).bind fun t356 => (if 2 < (t352.length : Int) then ((spec_l1Sub.f k1 (rd t352 2)).bind fun t358 => (if 3 < (t352.length : Int) then ((spec_l1Sub.f k1 (rd t352 3)).bind fun t360 => (if 0 < (t352.length : Int) then ((spec_l1Sub.f k1 (rd t352 0)).bind fun t362 => ((spec_l1Mul.f k1 x4_1 2).bind fun t366 => (if 0 ≤ (wrap64 ((wrap64 (4 * x5_1)) - 16)) then (if (wrap64 ((wrap64 (4 * x5_1)) - 16)) ≤ (wrap64 ((wrap64 (4 * x5_1)) - 12)) then (if (wrap64 ((wrap64 (4 * x5_1)) - 12)) ≤ (x3_1.length : Int) then ((spec_l1Xor.f k1 ((x3_1.take ((wrap64 ((wrap64 (4 * x5_1)) - 12)) : Int).toNat).drop ((wrap64 ((wrap64 (4 * x5_1)) - 16)) : Int).toNat) (([Go.bits .xor .u8 t356 x4_1, t358, t360, t362] : List Int))).bind fun t371 => (if x3_1.length + t371.length < 140737488355328 then (spec_l1Words.l0 k1 (x3_1 ++ t371) t366 (wrap64 (x5_1 + 1))) else (none))) else (none)) else (none)) else (none)))) else (none))) else (none))) else (none))) else (none)) else (if 0 ≤ (wrap64 ((wrap64 (4 * x5_1)) - 16)) then (if (wrap64 ((wrap64 (4 * x5_1)) - 16)) ≤ (wrap64 ((wrap64 (4 * x5_1)) - 12)) then (if (wrap64 ((wrap64 (4 * x5_1)) - 12)) ≤ (x3_1.length : Int) then ((spec_l1Xor.f k1 ((x3_1.take ((wrap64 ((wrap64 (4 * x5_1)) - 12)) : Int).toNat).drop ((wrap64 ((wrap64 (4 * x5_1)) - 16)) : Int).toNat) t352).bind fun t381 => (if x3_1.length + t381.length < 140737488355328 then (spec_l1Words.l0 k1 (x3_1 ++ t381) x4_1 (wrap64 (x5_1 + 1))) else (none))) else (none)) else (none)) else (none)))) = some r := by first | (rw [hy348]; with_reducible exact H) | (have H2_ := (Option.bind_some _ _).symm.trans H; rw [hy348]; with_reducible exact H2_) | (have H2_ := (Option.bind_some _ _).symm.trans H; with_reducible exact H2_) | with_reducible exact H | (rw [hy348]; exact H) | exact H
              have Ny348 := Aside0.mk hy348
              clear hy348
              replace H := Option.bind_eq_some_iff.mp H
              obtain ⟨t352, A90, H⟩ := H
              replace H : (if (Int.tmod x5_1 4) = 0 then (if 1 < (t352.length : Int) then ((spec_l1Sub.f k1 (rd t352 1)).bind fun t356 => (if 2 < (t352.length : Int) then ((spec_l1Sub.f k1 (rd t352 2)).bind fun t358 => (if 3 < (t352.length : Int) then ((spec_l1Sub.f k1 (rd t352 3)).bind fun t360 => (if 0 < (t352.length : Int) then ((spec_l1Sub.f k1 (rd t352 0)).bind fun t362 => ((spec_l1Mul.f k1 x4_1 2).bind fun t366 => (if 0 ≤ (wrap64 ((wrap64 (4 * x5_1)) - 16)) then (if (wrap64 ((wrap64 (4 * x5_1)) - 16)) ≤ (wrap64 ((wrap64 (4 * x5_1)) - 12)) then (if (wrap64 ((wrap64 (4 * x5_1)) - 12)) ≤ (x3_1.length : Int) then ((spec_l1Xor.f k1 ((x3_1.take ((wrap64 ((wrap64 (4 * x5_1)) - 12)) : Int).toNat).drop ((wrap64 ((wrap64 (4 * x5_1)) - 16)) : Int).toNat) (([Go.bits .xor .u8 t356 x4_1, t358, t360, t362] : List Int))).bind fun t371 => (if x3_1.length + t371.length < 140737488355328 then (spec_l1Words.l0 k1 (x3_1 ++ t371) t366 (wrap64 (x5_1 + 1))) else (none))) else (none)) else (none)) else (none)))) else (none))) else (none))) else (none))) else (none)) else (if 0 ≤ (wrap64 ((wrap64 (4 * x5_1)) - 16)) then (if (wrap64 ((wrap64 (4 * x5_1)) - 16)) ≤ (wrap64 ((wrap64 (4 * x5_1)) - 12)) then (if (wrap64 ((wrap64 (4 * x5_1)) - 12)) ≤ (x3_1.length : Int) then ((spec_l1Xor.f k1 ((x3_1.take ((wrap64 ((wrap64 (4 * x5_1)) - 12)) : Int).toNat).drop ((wrap64 ((wrap64 (4 * x5_1)) - 16)) : Int).toNat) t352).bind fun t381 => (if x3_1.length + t381.length < 140737488355328 then (spec_l1Words.l0 k1 (x3_1 ++ t381) x4_1 (wrap64 (x5_1 + 1))) else (none))) else (none)) else (none)) else (none))) = some r := H
              have A9 := Aside0.mk A90
              clear A90
              by_cases c10 : (Int.tmod x5_1 4) = 0
              · rw [if_pos c10] at H
                have c10b0 : ((Int.tmod x5_1 4) == 0) = true := beq_iff_eq.mpr c10
                have c10b1 : ((Int.tmod x5_1 4) != 0) = false := bne_eq_false_iff_eq.mpr c10
                clear c10
                by_cases c11 : 1 < (t352.length : Int)
                · rw [if_pos c11] at H
                  have c11b0 : decide (1 < (t352.length : Int)) = true := decide_eq_true c11
                  have c11b1 : decide (1 < t352.length) = true := decide_eq_true (by omega)
                  clear c11
                  replace H := Option.bind_eq_some_iff.mp H
                  obtain ⟨t356, A120, H⟩ := H
                  replace H : (if 2 < (t352.length : Int) then ((spec_l1Sub.f k1 (rd t352 2)).bind fun t358 => (if 3 < (t352.length : Int) then ((spec_l1Sub.f k1 (rd t352 3)).bind fun t360 => (if 0 < (t352.length : Int) then ((spec_l1Sub.f k1 (rd t352 0)).bind fun t362 => ((spec_l1Mul.f k1 x4_1 2).bind fun t366 => (if 0 ≤ (wrap64 ((wrap64 (4 * x5_1)) - 16)) then (if (wrap64 ((wrap64 (4 * x5_1)) - 16)) ≤ (wrap64 ((wrap64 (4 * x5_1)) - 12)) then (if (wrap64 ((wrap64 (4 * x5_1)) - 12)) ≤ (x3_1.length : Int) then ((spec_l1Xor.f k1 ((x3_1.take ((wrap64 ((wrap64 (4 * x5_1)) - 12)) : Int).toNat).drop ((wrap64 ((wrap64 (4 * x5_1)) - 16)) : Int).toNat) (([Go.bits .xor .u8 t356 x4_1, t358, t360, t362] : List Int))).bind fun t371 => (if x3_1.length + t371.length < 140737488355328 then (spec_l1Words.l0 k1 (x3_1 ++ t371) t366 (wrap64 (x5_1 + 1))) else (none))) else (none)) else (none)) else (none)))) else (none))) else (none))) else (none)) = some r := H
                  have A12 := Aside0.mk A120
                  clear A120
                  by_cases c13 : 2 < (t352.length : Int)
                  · rw [if_pos c13] at H
                    have c13b0 : decide (2 < (t352.length : Int)) = true := decide_eq_true c13
                    have c13b1 : decide (2 < t352.length) = true := decide_eq_true (by omega)
                    clear c13
                    replace H := Option.bind_eq_some_iff.mp H
                    obtain ⟨t358, A140, H⟩ := H
                    replace H : (if 3 < (t352.length : Int) then ((spec_l1Sub.f k1 (rd t352 3)).bind fun t360 => (if 0 < (t352.length : Int) then ((spec_l1Sub.f k1 (rd t352 0)).bind fun t362 => ((spec_l1Mul.f k1 x4_1 2).bind fun t366 => (if 0 ≤ (wrap64 ((wrap64 (4 * x5_1)) - 16)) then (if (wrap64 ((wrap64 (4 * x5_1)) - 16)) ≤ (wrap64 ((wrap64 (4 * x5_1)) - 12)) then (if (wrap64 ((wrap64 (4 * x5_1)) - 12)) ≤ (x3_1.length : Int) then ((spec_l1Xor.f k1 ((x3_1.take ((wrap64 ((wrap64 (4 * x5_1)) - 12)) : Int).toNat).drop ((wrap64 ((wrap64 (4 * x5_1)) - 16)) : Int).toNat) (([Go.bits .xor .u8 t356 x4_1, t358, t360, t362] : List Int))).bind fun t371 => (if x3_1.length + t371.length < 140737488355328 then (spec_l1Words.l0 k1 (x3_1 ++ t371) t366 (wrap64 (x5_1 + 1))) else (none))) else (none)) else (none)) else (none)))) else (none))) else (none)) = some r := H
                    have A14 := Aside0.mk A140
                    clear A140
                    by_cases c15 : 3 < (t352.length : Int)
                    · rw [if_pos c15] at H
                      have c15b0 : decide (3 < (t352.length : Int)) = true := decide_eq_true c15
                      have c15b1 : decide (3 < t352.length) = true := decide_eq_true (by omega)
                      clear c15
                      replace H := Option.bind_eq_some_iff.mp H
                      obtain ⟨t360, A160, H⟩ := H
                      replace H : (if 0 < (t352.length : Int) then ((spec_l1Sub.f k1 (rd t352 0)).bind fun t362 => ((spec_l1Mul.f k1 x4_1 2).bind fun t366 => (if 0 ≤ (wrap64 ((wrap64 (4 * x5_1)) - 16)) then (if (wrap64 ((wrap64 (4 * x5_1)) - 16)) ≤ (wrap64 ((wrap64 (4 * x5_1)) - 12)) then (if (wrap64 ((wrap64 (4 * x5_1)) - 12)) ≤ (x3_1.length : Int) then ((spec_l1Xor.f k1 ((x3_1.take ((wrap64 ((wrap64 (4 * x5_1)) - 12)) : Int).toNat).drop ((wrap64 ((wrap64 (4 * x5_1)) - 16)) : Int).toNat) (([Go.bits .xor .u8 t356 x4_1, t358, t360, t362] : List Int))).bind fun t371 => (if x3_1.length + t371.length < 140737488355328 then (spec_l1Words.l0 k1 (x3_1 ++ t371) t366 (wrap64 (x5_1 + 1))) else (none))) else (none)) else (none)) else (none)))) else (none)) = some r := H
                      have A16 := Aside0.mk A160
                      clear A160
                      by_cases c17 : 0 < (t352.length : Int)
                      · rw [if_pos c17] at H
                        have c17b0 : decide (0 < (t352.length : Int)) = true := decide_eq_true c17
                        have c17b1 : decide (0 < t352.length) = true := decide_eq_true (by omega)
                        clear c17
                        replace H := Option.bind_eq_some_iff.mp H
                        obtain ⟨t362, A180, H⟩ := H
                        replace H : ((spec_l1Mul.f k1 x4_1 2).bind fun t366 => (if 0 ≤ (wrap64 ((wrap64 (4 * x5_1)) - 16)) then (if (wrap64 ((wrap64 (4 * x5_1)) - 16)) ≤ (wrap64 ((wrap64 (4 * x5_1)) - 12)) then (if (wrap64 ((wrap64 (4 * x5_1)) - 12)) ≤ (x3_1.length : Int) then ((spec_l1Xor.f k1 ((x3_1.take ((wrap64 ((wrap64 (4 * x5_1)) - 12)) : Int).toNat).drop ((wrap64 ((wrap64 (4 * x5_1)) - 16)) : Int).toNat) (([Go.bits .xor .u8 t356 x4_1, t358, t360, t362] : List Int))).bind fun t371 => (if x3_1.length + t371.length < 140737488355328 then (spec_l1Words.l0 k1 (x3_1 ++ t371) t366 (wrap64 (x5_1 + 1))) else (none))) else (none)) else (none)) else (none))) = some r := H
                        have A18 := Aside0.mk A180
                        clear A180
                        obtain ⟨y363, hy363⟩ : ∃ y_ : List Int, y_ = (([Go.bits .xor .u8 t356 x4_1, t358, t360, t362] : List Int)) := ⟨_, rfl⟩
                        replace H : ((spec_l1Mul.f k1 x4_1 2).bind fun t366 => (if 0 ≤ (wrap64 ((wrap64 (4 * x5_1)) - 16)) then (if (wrap64 ((wrap64 (4 * x5_1)) - 16)) ≤ (wrap64 ((wrap64 (4 * x5_1)) - 12)) then (if (wrap64 ((wrap64 (4 * x5_1)) - 12)) ≤ (x3_1.length : Int) then ((spec_l1Xor.f k1 ((x3_1.take ((wrap64 ((wrap64 (4 * x5_1)) - 12)) : Int).toNat).drop ((wrap64 ((wrap64 (4 * x5_1)) - 16)) : Int).toNat) y363).bind fun t371 => (if x3_1.length + t371.length < 140737488355328 then (spec_l1Words.l0 k1 (x3_1 ++ t371) t366 (wrap64 (x5_1 + 1))) else (none))) else (none)) else (none)) else (none))) = some r := by first | (rw [hy363]; with_reducible exact H) | (have H2_ := (Option.bind_some _ _).symm.trans H; rw [hy363]; with_reducible exact H2_) | (have H2_ := (Option.bind_some _ _).symm.trans H; with_reducible exact H2_) | with_reducible exact H | (rw [hy363]; exact H) | exact H
                        have Ny363 := Aside0.mk hy363
                        clear hy363
                        replace H := Option.bind_eq_some_iff.mp H
                        obtain ⟨t366, A190, H⟩ := H
                        replace H : (if 0 ≤ (wrap64 ((wrap64 (4 * x5_1)) - 16)) then (if (wrap64 ((wrap64 (4 * x5_1)) - 16)) ≤ (wrap64 ((wrap64 (4 * x5_1)) - 12)) then (if (wrap64 ((wrap64 (4 * x5_1)) - 12)) ≤ (x3_1.length : Int) then ((spec_l1Xor.f k1 ((x3_1.take ((wrap64 ((wrap64 (4 * x5_1)) - 12)) : Int).toNat).drop ((wrap64 ((wrap64 (4 * x5_1)) - 16)) : Int).toNat) y363).bind fun t371 => (if x3_1.length + t371.length < 140737488355328 then (spec_l1Words.l0 k1 (x3_1 ++ t371) t366 (wrap64 (x5_1 + 1))) else (none))) else (none)) else (none)) else (none)) = some r := H
                        have A19 := Aside0.mk A190
                        clear A190
                        obtain ⟨ji20, hji20⟩ : ∃ j_ : Int, (wrap64 ((wrap64 (4 * x5_1)) - 16)) = j_ := ⟨_, rfl⟩
                        replace H : (if 0 ≤ (ji20) then (if (ji20) ≤ (wrap64 ((wrap64 (4 * x5_1)) - 12)) then (if (wrap64 ((wrap64 (4 * x5_1)) - 12)) ≤ (x3_1.length : Int) then ((spec_l1Xor.f k1 ((x3_1.take ((wrap64 ((wrap64 (4 * x5_1)) - 12)) : Int).toNat).drop ((ji20) : Int).toNat) y363).bind fun t371 => (if x3_1.length + t371.length < 140737488355328 then (spec_l1Words.l0 k1 (x3_1 ++ t371) t366 (wrap64 (x5_1 + 1))) else (none))) else (none)) else (none)) else (none)) = some r := by first | (rw [hji20] at H; exact H) | (simp only [hji20] at H ⊢; exact H)
                        (try rw [hji20] at A9)
                        (try rw [hji20] at A12)
                        (try rw [hji20] at A14)
                        (try rw [hji20] at A16)
                        (try rw [hji20] at A18)
                        (try rw [hji20] at A19)
                        have hji20w : (IntKind.i64.wrap ((wrap64 (4 * x5_1)) - 16)) = ji20 := (i64_w _).trans hji20
                        by_cases c21 : 0 ≤ (ji20)
                        · rw [if_pos c21] at H
                          have c21b0 := eq_true c21
                          have c21b1 : decide (0 ≤ (ji20)) = true := decide_eq_true c21
                          clear c21
                          by_cases c22 : (ji20) ≤ (wrap64 ((wrap64 (4 * x5_1)) - 12))
                          · rw [if_pos c22] at H
                            have c22b0 := eq_true c22
                            have c22b1 : decide ((ji20) ≤ (wrap64 ((wrap64 (4 * x5_1)) - 12))) = true := decide_eq_true c22
                            clear c22
                            by_cases c23 : (wrap64 ((wrap64 (4 * x5_1)) - 12)) ≤ (x3_1.length : Int)
                            · rw [if_pos c23] at H
                              have c23b0 := eq_true c23
                              have c23b1 : decide ((wrap64 ((wrap64 (4 * x5_1)) - 12)) ≤ (x3_1.length : Int)) = true := decide_eq_true c23
                              clear c23
                              obtain ⟨y367, hy367⟩ : ∃ y_ : List Int, y_ = ((x3_1.take ((wrap64 ((wrap64 (4 * x5_1)) - 12)) : Int).toNat).drop ((ji20) : Int).toNat) := ⟨_, rfl⟩
                              replace H : ((spec_l1Xor.f k1 y367 y363).bind fun t371 => (if x3_1.length + t371.length < 140737488355328 then (spec_l1Words.l0 k1 (x3_1 ++ t371) t366 (wrap64 (x5_1 + 1))) else (none))) = some r := by first | (rw [hy367]; with_reducible exact H) | (have H2_ := (Option.bind_some _ _).symm.trans H; rw [hy367]; with_reducible exact H2_) | (have H2_ := (Option.bind_some _ _).symm.trans H; with_reducible exact H2_) | with_reducible exact H | (rw [hy367]; exact H) | exact H
                              have Ny367 := Aside0.mk hy367
                              clear hy367
                              replace H := Option.bind_eq_some_iff.mp H
                              obtain ⟨t371, A240, H⟩ := H
                              replace H : (if x3_1.length + t371.length < 140737488355328 then (spec_l1Words.l0 k1 (x3_1 ++ t371) t366 (wrap64 (x5_1 + 1))) else (none)) = some r := H
                              have A24 := Aside0.mk A240
                              clear A240
                              by_cases c25 : x3_1.length + t371.length < 140737488355328
                              · rw [if_pos c25] at H
                                have LMc25 := Aside0.mk c25
                                clear c25
                                obtain ⟨y374, hy374⟩ : ∃ y_ : List Int, y_ = (x3_1 ++ t371) := ⟨_, rfl⟩
                                replace H : (spec_l1Words.l0 k1 y374 t366 (wrap64 (x5_1 + 1))) = some r := by first | (rw [hy374]; with_reducible exact H) | (have H2_ := (Option.bind_some _ _).symm.trans H; rw [hy374]; with_reducible exact H2_) | (have H2_ := (Option.bind_some _ _).symm.trans H; with_reducible exact H2_) | with_reducible exact H | (rw [hy374]; exact H) | exact H
                                have Ny374 := Aside0.mk hy374
                                clear hy374
                                have H' := Aside0.mk H
                                clear H
                                obtain ⟨Ao27, co27, eo27⟩ := Kd.R_slice HO_3.out
                                subst eo27
                                have q26 : ((wrap64 (4 * x5_1)) : Int) ≤ ((x3_1.length : Int) : Int) := of_decide_eq_true (by first | (with_reducible assumption) | assumption)
                                obtain ⟨i026, hi026, _, hsz26, _⟩ := info_parts info5
                                have hroom26 : x3_1.length ≤ co27 := (Kd.R_reads' HO_3.out).2.1
                                have hC26 : Kd.C (Kd.int .u8) _ Ao27 x3_1.length x3_1 := (Kd.R_reads' HO_3.out).2.2
                                have ql26 : ((ji5) : Int) ≤ ((wrap64 (4 * x5_1)) : Int) := of_decide_eq_true (by first | (with_reducible assumption) | assumption)
                                have q026 : (0 : Int) ≤ ((ji5) : Int) := of_decide_eq_true (by first | (with_reducible assumption) | assumption)
                                have hcut26 := cut_mid (P := Try.prog) 29 5 .i64 .i64 Try.underlying29 hi026 1 hsz26 Ao27 x3_1.length co27 (ji5) (wrap64 (4 * x5_1)) q026 ql26 q26 hroom26
                                have hr26 := Kd.C_mid (lo := ((ji5) : Int).toNat) (hi := ((wrap64 (4 * x5_1)) : Int).toNat) (c := co27) hC26 (by omega) (by omega) hroom26
                                obtain ⟨A26, hA26⟩ : ∃ A1, A1 = (if co27 = ((ji5) : Int).toNat then Ao27 else (Ao27 : Option Addr).map (·.add (((ji5) : Int).toNat * 1))) := ⟨_, rfl⟩
                                obtain ⟨c26, hc26⟩ : ∃ c1, c1 = co27 - ((ji5) : Int).toNat := ⟨_, rfl⟩
                                have hy26 : y348.length = ((wrap64 (4 * x5_1)) : Int).toNat - ((ji5) : Int).toNat := (by rw [Ny348.out, List.length_drop, List.length_take] <;> omega)
                                rw [show ((x3_1).take ((wrap64 (4 * x5_1)) : Int).toNat).drop ((ji5) : Int).toNat = y348 from Ny348.out.symm] at hr26
                                replace hr26 : Kd.C (Kd.int .u8) _ A26 y348.length y348 := (by rw [hA26]; exact hr26)
                                rw [← hy26, ← hA26, ← hc26] at hcut26
                                have HR351 := Aside0.mk hr26
                                have HC351 := Aside0.mk (show y348.length ≤ c26 from by rw [hy26, hc26]; exact Nat.sub_le_sub_right (Nat.le_trans (by omega) hroom26) _)
                                clear hr26 hC26 hroom26 hi026 hsz26 hc26
                                have KY26 := Aside0.mk hy26
                                have KA26 := Aside0.mk hA26
                                clear hy26 hA26
                                have KL26 := Aside0.mk (show ((wrap64 (4 * x5_1)) : Int).toNat ≤ x3_1.length from by omega)
                                have KM26 := Aside0.mk (show ((ji5) : Int).toNat ≤ ((wrap64 (4 * x5_1)) : Int).toNat from by omega)
                                replace q26 := eq_true q26
                                try go_wp2_with (first | ((with_reducible refine gate_callee (f := 97) rfl ?_); refine goesL_ (some 20) rfl rfl Try.func97 (by kernel_rfl) rfl #[.slice A26 y348.length c26] rfl (by (try simp only [List.map_toArray, List.map_cons, List.map_nil]); first | done | rfl | (simp only [List.length_drop, List.length_take]; rfl)) ?_; (with_reducible refine (spec_l1Bytes.calls _ _ y348 t352 _ ?side1 ?side2 A9.out).mono ?_); (case side1 => repeat (first | exact (by repeat (first | (with_reducible exact HR351.out) | (with_reducible refine Kd.C_alloc ?_ _) | (with_reducible refine Kd.C_drewN ?_ _) | (with_reducible refine Kd.C_drew ?_) | exact HR351.out)) | (with_reducible refine Kd.C_alloc ?_ _) | (with_reducible refine Kd.C_drewN ?_ _) | (with_reducible refine Kd.C_drew ?_))); (case side2 => exact HC351.out); rintro e w28 ⟨v353, rfl, ho0, hb⟩; refine ⟨_, rfl, ?_⟩; have n0_ := Aside0.mk (Kd.R_elder' (by (with_reducible repeat (first | apply Kd.R_alloc | apply Kd.R_drewN | apply Kd.R_drew)); exact HO_3.out) (Kd.R_base ho0) hb); have n1_ := Aside0.mk (Kd.R_lower (Kd.R_new' ho0 (Kd.R_lt (by (with_reducible repeat (first | apply Kd.R_alloc | apply Kd.R_drewN | apply Kd.R_drew)); exact HO_3.out))) (below_size (by repeat (first | (with_reducible first | exact HB.out | apply below_alloc | apply pw_below_drewN | apply below_drew1) | exact HB.out)))); have n2_ := Aside0.mk (Kd.C_below (by repeat (first | (with_reducible exact HR351.out) | (with_reducible refine Kd.C_alloc ?_ _) | (with_reducible refine Kd.C_drewN ?_ _) | (with_reducible refine Kd.C_drew ?_) | exact HR351.out)) hb); have n3_ := Aside0.mk (below_step (by repeat (first | (with_reducible first | exact HB.out | apply below_alloc | apply pw_below_drewN | apply below_drew1) | exact HB.out)) hb); clear HO_3; clear HR351; clear HB; have HO_3 := n0_; have HO354 := n1_; have HR351 := n2_; have HB := n3_; clear n0_ n1_ n2_ n3_; (try clear hb); (try clear hb2); (try clear hk); (try clear hi); (try clear ho0)))
                                have n0_ := Aside0.mk (Kd.R_drew HO_3.out)
                                have n1_ := Aside0.mk (Kd.R_drew HO354.out)
                                have n2_ := Aside0.mk (Kd.C_drew HR351.out)
                                have n3_ := Aside0.mk (below_drew1 HB.out)
                                clear HO_3
                                clear HO354
                                clear HR351
                                clear HB
                                have HO_3 := n0_
                                have HO354 := n1_
                                have HR351 := n2_
                                have HB := n3_
                                clear n0_ n1_ n2_ n3_
                                obtain ⟨Ao30, co30, eo30⟩ := Kd.R_slice HO354.out
                                (first | subst eo30 | (injection eo30 with f1_ f2_ f3_; have f4_ := f1_.symm; have f5_ := f3_.symm; clear f1_ f2_ f3_; subst f4_; subst f5_))
                                have p355 : 0 ≤ (1 : Int) := (by omega)
                                have q355 : 1 < (t352.length : Int) := of_decide_eq_true (by first | (with_reducible assumption) | assumption)
                                obtain ⟨ad355, e355, hx355_0⟩ := Kd.at_int (Kd.R_reads' HO354.out).2.2 1 p355 q355
                                cases e355
                                (try simp only [show (1 : Int).toNat = 1 from rfl, Nat.reduceMul, Nat.reduceEqDiff, Go.Addr.add, ↓reduceIte] at hx355_0)
                                have qi355 : (1 < t352.length) = True := eq_true (by omega)
                                (try rw [show ((1 : Int)).toNat = 1 from rfl] at hx355_0)
                                replace p355 := eq_true p355
                                replace q355 := eq_true q355
                                have p357 : 0 ≤ (2 : Int) := (by omega)
                                have q357 : 2 < (t352.length : Int) := of_decide_eq_true (by first | (with_reducible assumption) | assumption)
                                obtain ⟨ad357, e357, hx357_0⟩ := Kd.at_int (Kd.R_reads' HO354.out).2.2 2 p357 q357
                                obtain rfl : ad355 = ad357 := (by injection e357)
                                (try simp only [show (2 : Int).toNat = 2 from rfl, Nat.reduceMul, Nat.reduceEqDiff, Go.Addr.add, ↓reduceIte] at hx357_0)
                                have qi357 : (2 < t352.length) = True := eq_true (by omega)
                                (try rw [show ((2 : Int)).toNat = 2 from rfl] at hx357_0)
                                replace p357 := eq_true p357
                                replace q357 := eq_true q357
                                have p359 : 0 ≤ (3 : Int) := (by omega)
                                have q359 : 3 < (t352.length : Int) := of_decide_eq_true (by first | (with_reducible assumption) | assumption)
                                obtain ⟨ad359, e359, hx359_0⟩ := Kd.at_int (Kd.R_reads' HO354.out).2.2 3 p359 q359
                                obtain rfl : ad355 = ad359 := (by injection e359)
                                (try simp only [show (3 : Int).toNat = 3 from rfl, Nat.reduceMul, Nat.reduceEqDiff, Go.Addr.add, ↓reduceIte] at hx359_0)
                                have qi359 : (3 < t352.length) = True := eq_true (by omega)
                                (try rw [show ((3 : Int)).toNat = 3 from rfl] at hx359_0)
                                replace p359 := eq_true p359
                                replace q359 := eq_true q359
                                have p361 : 0 ≤ (0 : Int) := (by omega)
                                have q361 : 0 < (t352.length : Int) := of_decide_eq_true (by first | (with_reducible assumption) | assumption)
                                obtain ⟨ad361, e361, hx361_0⟩ := Kd.at_int (Kd.R_reads' HO354.out).2.2 0 p361 q361
                                obtain rfl : ad355 = ad361 := (by injection e361)
                                have qi361 : (0 < t352.length) = True := eq_true (by omega)
                                (try rw [show ((0 : Int)).toNat = 0 from rfl] at hx361_0)
                                (try rw [Addr.add_zero'] at hx361_0)
                                replace p361 := eq_true p361
                                replace q361 := eq_true q361
                                refine start_ (n := 20) (S := fun w' => w'.cell? ⟨ad355.block, ad355.off + 1, none⟩ = some (.int .u8 (rd t352 1)) ∧ w'.cell? ⟨ad355.block, ad355.off + 2, none⟩ = some (.int .u8 (rd t352 2)) ∧ w'.cell? ⟨ad355.block, ad355.off + 3, none⟩ = some (.int .u8 (rd t352 3)) ∧ w'.cell? ad355 = some (.int .u8 (rd t352 0))) (ds := []) #[false, false, false, false, false, false, false, false, false, false, false, false, false, false, false, false, false, false, false, false] (by kernel_rfl) rfl rfl ⟨hx355_0, hx357_0, hx359_0, hx361_0⟩ (fun hHeld => ?_); refine with_tabW spec_l1Words.tab8 spec_l1Words.bits8 (fun HT_ HW_ => ?_)
                                generalize w28.drew = w29 at HO_3 HO354 HR351 HB hx355_0 hx357_0 hx359_0 hx361_0 hHeld ⊢
                                refine pure_ (i := 0) (N := some 24) (v := ?_) (a' := ?_) #[true, false, false, false, false, false, false, false, false, false, false, false, false, false, false, false, false, false, false, false] rfl rfl (any_of HT_.out (by kernel_rfl)) (fun _ _ _ h => h) (Or.inl ⟨by rfl, ?_⟩) ?_ ?_
                                rotate_left
                                · intro w'
                                  go_simp
                                  with_reducible rfl
                                rotate_left
                                · simp only [Act.put, List.setIfInBounds_toArray, List.set_cons_zero, List.set_cons_succ, i64_w, i32_w]
                                  rfl
                                refine pure_ (i := 1) (N := some 25) (v := ?_) (a' := ?_) #[true, true, false, false, false, false, false, false, false, false, false, false, false, false, false, false, false, false, false, false] rfl rfl (any_of HT_.out (by kernel_rfl)) (fun _ _ _ h => h) (Or.inl ⟨by rfl, ?_⟩) ?_ ?_
                                rotate_left
                                · intro w'
                                  go_simp
                                  with_reducible rfl
                                rotate_left
                                · simp only [Act.put, List.setIfInBounds_toArray, List.set_cons_zero, List.set_cons_succ, i64_w, i32_w]
                                  rfl
                                refine pure_ (i := 4) (N := some 28) (v := ?_) (a' := ?_) #[true, true, false, false, true, false, false, false, false, false, false, false, false, false, false, false, false, false, false, false] rfl rfl (any_of HT_.out (by kernel_rfl)) (fun _ _ _ h => h) (Or.inl ⟨by rfl, ?_⟩) ?_ ?_
                                rotate_left
                                · intro w'
                                  go_simp
                                  with_reducible rfl
                                rotate_left
                                · simp only [Act.put, List.setIfInBounds_toArray, List.set_cons_zero, List.set_cons_succ, i64_w, i32_w]
                                  rfl
                                refine pure_ (i := 6) (N := some 30) (v := ?_) (a' := ?_) #[true, true, false, false, true, false, true, false, false, false, false, false, false, false, false, false, false, false, false, false] rfl rfl (any_of HT_.out (by kernel_rfl)) (fun _ _ _ h => h) (Or.inl ⟨by rfl, ?_⟩) ?_ ?_
                                rotate_left
                                · intro w'
                                  go_simp
                                  with_reducible rfl
                                rotate_left
                                · simp only [Act.put, List.setIfInBounds_toArray, List.set_cons_zero, List.set_cons_succ, i64_w, i32_w]
                                  rfl
                                refine pure_ (i := 7) (N := some 31) (v := ?_) (a' := ?_) #[true, true, false, false, true, false, true, true, false, false, false, false, false, false, false, false, false, false, false, false] rfl rfl (any_of HT_.out (by kernel_rfl)) (fun _ _ _ h => h) (Or.inl ⟨by rfl, ?_⟩) ?_ ?_
                                rotate_left
                                · intro w'
                                  go_simp
                                  with_reducible rfl
                                rotate_left
                                · simp only [Act.put, List.setIfInBounds_toArray, List.set_cons_zero, List.set_cons_succ, i64_w, i32_w]
                                  rfl
                                refine pure_ (i := 10) (N := some 34) (v := ?_) (a' := ?_) #[true, true, false, false, true, false, true, true, false, false, true, false, false, false, false, false, false, false, false, false] rfl rfl (any_of HT_.out (by kernel_rfl)) (fun _ _ _ h => h) (Or.inl ⟨by rfl, ?_⟩) ?_ ?_
                                rotate_left
                                · intro w'
                                  go_simp
                                  with_reducible rfl
                                rotate_left
                                · simp only [Act.put, List.setIfInBounds_toArray, List.set_cons_zero, List.set_cons_succ, i64_w, i32_w]
                                  rfl
                                refine pure_ (i := 11) (N := some 35) (v := ?_) (a' := ?_) #[true, true, false, false, true, false, true, true, false, false, true, true, false, false, false, false, false, false, false, false] rfl rfl (any_of HT_.out (by kernel_rfl)) (fun _ _ _ h => h) (Or.inl ⟨by rfl, ?_⟩) ?_ ?_
                                rotate_left
                                · intro w'
                                  go_simp
                                  with_reducible rfl
                                rotate_left
                                · simp only [Act.put, List.setIfInBounds_toArray, List.set_cons_zero, List.set_cons_succ, i64_w, i32_w]
                                  rfl
                                refine pure_ (i := 14) (N := some 38) (v := ?_) (a' := ?_) #[true, true, false, false, true, false, true, true, false, false, true, true, false, false, true, false, false, false, false, false] rfl rfl (any_of HT_.out (by kernel_rfl)) (fun _ _ _ h => h) (Or.inl ⟨by rfl, ?_⟩) ?_ ?_
                                rotate_left
                                · intro w'
                                  go_simp
                                  with_reducible rfl
                                rotate_left
                                · simp only [Act.put, List.setIfInBounds_toArray, List.set_cons_zero, List.set_cons_succ, i64_w, i32_w]
                                  rfl
                                refine pure_ (i := 15) (N := some 39) (v := ?_) (a' := ?_) #[true, true, false, false, true, false, true, true, false, false, true, true, false, false, true, true, false, false, false, false] rfl rfl (any_of HT_.out (by kernel_rfl)) (fun _ _ _ h => h) (Or.inl ⟨by rfl, ?_⟩) ?_ ?_
                                rotate_left
                                · intro w'
                                  go_simp
                                  with_reducible rfl
                                rotate_left
                                · simp only [Act.put, List.setIfInBounds_toArray, List.set_cons_zero, List.set_cons_succ, i64_w, i32_w]
                                  rfl
                                refine take_ (i := 2) (N := some 26) (v := ?_) (a' := ?_) #[true, true, true, false, true, false, true, true, false, false, true, true, false, false, true, true, false, false, false, false] rfl rfl (take_ofW HT_.out HW_.out (by kernel_rfl)) (fun _ _ _ h => h) (Or.inl ⟨by rfl, ?_⟩) hHeld ?_ ?_
                                rotate_left
                                · rintro w' ⟨s0, s1, s2, s3⟩
                                  go_simp
                                  with_reducible rfl
                                rotate_left
                                · simp only [Act.put, List.setIfInBounds_toArray, List.set_cons_zero, List.set_cons_succ, i64_w, i32_w]
                                  rfl
                                refine take_ (i := 8) (N := some 32) (v := ?_) (a' := ?_) #[true, true, true, false, true, false, true, true, true, false, true, true, false, false, true, true, false, false, false, false] rfl rfl (take_ofW HT_.out HW_.out (by kernel_rfl)) (fun _ _ _ h => h) (Or.inl ⟨by rfl, ?_⟩) hHeld ?_ ?_
                                rotate_left
                                · rintro w' ⟨s0, s1, s2, s3⟩
                                  go_simp
                                  with_reducible rfl
                                rotate_left
                                · simp only [Act.put, List.setIfInBounds_toArray, List.set_cons_zero, List.set_cons_succ, i64_w, i32_w]
                                  rfl
                                refine take_ (i := 12) (N := some 36) (v := ?_) (a' := ?_) #[true, true, true, false, true, false, true, true, true, false, true, true, true, false, true, true, false, false, false, false] rfl rfl (take_ofW HT_.out HW_.out (by kernel_rfl)) (fun _ _ _ h => h) (Or.inl ⟨by rfl, ?_⟩) hHeld ?_ ?_
                                rotate_left
                                · rintro w' ⟨s0, s1, s2, s3⟩
                                  go_simp
                                  with_reducible rfl
                                rotate_left
                                · simp only [Act.put, List.setIfInBounds_toArray, List.set_cons_zero, List.set_cons_succ, i64_w, i32_w]
                                  rfl
                                refine take_ (i := 16) (N := some 40) (v := ?_) (a' := ?_) #[true, true, true, false, true, false, true, true, true, false, true, true, true, false, true, true, true, false, false, false] rfl rfl (take_ofW HT_.out HW_.out (by kernel_rfl)) (fun _ _ _ h => h) (Or.inl ⟨by rfl, ?_⟩) hHeld ?_ ?_
                                rotate_left
                                · rintro w' ⟨s0, s1, s2, s3⟩
                                  go_simp
                                  with_reducible rfl
                                rotate_left
                                · simp only [Act.put, List.setIfInBounds_toArray, List.set_cons_zero, List.set_cons_succ, i64_w, i32_w]
                                  rfl
                                refine one_ (i := 3) (N := some 27) #[true, true, true, true, true, false, true, true, true, false, true, true, true, false, true, true, true, false, false, false] rfl rfl (one_of HT_.out (by kernel_rfl)) (by decide) (fun K hK => ?_)
                                refine goes_ Try.func114 (by kernel_rfl) rfl #[.int .u8 (rd t352 1)] (by rfl) rfl rfl (by (try simp only [List.map_toArray, List.map_cons, List.map_nil]); first | done | rfl | (simp only [List.length_drop, List.length_take]; rfl)) ?_
                                with_reducible refine (spec_l1Sub.calls k1 (rd t352 1) t356 _ A12.out).mono ?_
                                rintro e w' ⟨rfl, ⟨nd, rfl⟩⟩
                                refine ⟨_, rfl, ?_⟩
                                refine hK.out _ _ ⟨hHeld.1, hHeld.2.1, hHeld.2.2.1, hHeld.2.2.2⟩ (fun hHeld => ?_)
                                clear hK K
                                refine norm_ (a' := ?_) ?_ ?_
                                rotate_left
                                · show Act.put _ (some 27) _ = _
                                  simp only [Act.put, List.setIfInBounds_toArray, List.set_cons_zero, List.set_cons_succ, i64_w, i32_w]
                                  rfl
                                refine pure_ (i := 5) (N := some 29) (v := ?_) (a' := ?_) #[true, true, true, true, true, true, true, true, true, false, true, true, true, false, true, true, true, false, false, false] rfl rfl (any_of HT_.out (by kernel_rfl)) (fun _ _ _ h => h) (Or.inl ⟨by rfl, ?_⟩) ?_ ?_
                                rotate_left
                                · intro w'
                                  go_simp
                                  with_reducible rfl
                                rotate_left
                                · simp only [Act.put, List.setIfInBounds_toArray, List.set_cons_zero, List.set_cons_succ, i64_w, i32_w]
                                  rfl
                                refine one_ (i := 9) (N := some 33) #[true, true, true, true, true, true, true, true, true, true, true, true, true, false, true, true, true, false, false, false] rfl rfl (one_of HT_.out (by kernel_rfl)) (by decide) (fun K hK => ?_)
                                refine goes_ Try.func114 (by kernel_rfl) rfl #[.int .u8 (rd t352 2)] (by rfl) rfl rfl (by (try simp only [List.map_toArray, List.map_cons, List.map_nil]); first | done | rfl | (simp only [List.length_drop, List.length_take]; rfl)) ?_
                                with_reducible refine (spec_l1Sub.calls k1 (rd t352 2) t358 _ A14.out).mono ?_
                                rintro e w' ⟨rfl, ⟨nd, rfl⟩⟩
                                refine ⟨_, rfl, ?_⟩
                                refine hK.out _ _ ⟨hHeld.1, hHeld.2.1, hHeld.2.2.1, hHeld.2.2.2⟩ (fun hHeld => ?_)
                                clear hK K
                                refine norm_ (a' := ?_) ?_ ?_
                                rotate_left
                                · show Act.put _ (some 33) _ = _
                                  simp only [Act.put, List.setIfInBounds_toArray, List.set_cons_zero, List.set_cons_succ, i64_w, i32_w]
                                  rfl
                                refine one_ (i := 13) (N := some 37) #[true, true, true, true, true, true, true, true, true, true, true, true, true, true, true, true, true, false, false, false] rfl rfl (one_of HT_.out (by kernel_rfl)) (by decide) (fun K hK => ?_)
                                refine goes_ Try.func114 (by kernel_rfl) rfl #[.int .u8 (rd t352 3)] (by rfl) rfl rfl (by (try simp only [List.map_toArray, List.map_cons, List.map_nil]); first | done | rfl | (simp only [List.length_drop, List.length_take]; rfl)) ?_
                                with_reducible refine (spec_l1Sub.calls k1 (rd t352 3) t360 _ A16.out).mono ?_
                                rintro e w' ⟨rfl, ⟨nd, rfl⟩⟩
                                refine ⟨_, rfl, ?_⟩
                                refine hK.out _ _ ⟨hHeld.1, hHeld.2.1, hHeld.2.2.1, hHeld.2.2.2⟩ (fun hHeld => ?_)
                                clear hK K
                                refine norm_ (a' := ?_) ?_ ?_
                                rotate_left
                                · show Act.put _ (some 37) _ = _
                                  simp only [Act.put, List.setIfInBounds_toArray, List.set_cons_zero, List.set_cons_succ, i64_w, i32_w]
                                  rfl
                                refine one_ (i := 17) (N := some 41) #[true, true, true, true, true, true, true, true, true, true, true, true, true, true, true, true, true, true, false, false] rfl rfl (one_of HT_.out (by kernel_rfl)) (by decide) (fun K hK => ?_)
                                refine goes_ Try.func114 (by kernel_rfl) rfl #[.int .u8 (rd t352 0)] (by rfl) rfl rfl (by (try simp only [List.map_toArray, List.map_cons, List.map_nil]); first | done | rfl | (simp only [List.length_drop, List.length_take]; rfl)) ?_
                                with_reducible refine (spec_l1Sub.calls k1 (rd t352 0) t362 _ A18.out).mono ?_
                                rintro e w' ⟨rfl, ⟨nd, rfl⟩⟩
                                refine ⟨_, rfl, ?_⟩
                                refine hK.out _ _ ⟨hHeld.1, hHeld.2.1, hHeld.2.2.1, hHeld.2.2.2⟩ (fun hHeld => ?_)
                                clear hK K
                                refine norm_ (a' := ?_) ?_ ?_
                                rotate_left
                                · show Act.put _ (some 41) _ = _
                                  simp only [Act.put, List.setIfInBounds_toArray, List.set_cons_zero, List.set_cons_succ, i64_w, i32_w]
                                  rfl
                                refine one_ (i := 18) (N := some 42) #[true, true, true, true, true, true, true, true, true, true, true, true, true, true, true, true, true, true, true, false] rfl rfl (one_of HT_.out (by kernel_rfl)) (by decide) (fun K hK => ?_)
                                refine Kd.R_lit_step (Kd.int .u8) _ 5 ?hg (N := 42) ?hd (xs := ([Go.bits .xor .u8 t356 x4_1, t358, t360, t362] : List Int)) (inner := [.int .u8 (Go.bits .xor .u8 t356 x4_1), .int .u8 t358, .int .u8 t360, .int .u8 t362]) (ok := fun _ => True) (okp := fun _ => True) ?hr ?hp (fun _ hk => hk) trivial (Below.refl _ _) (Nat.le_refl _) (by simp) ?_; (case hd => rfl); (case hg => rfl); (case hr => first | (go_simp; done) | (go_simp; rfl)); (case hp => exact (Reps.one (show Kd.M (Kd.int .u8) _ _ _ (Go.bits .xor .u8 t356 x4_1) [.int .u8 (Go.bits .xor .u8 t356 x4_1)] from rfl) (Reps.one (show Kd.M (Kd.int .u8) _ _ _ t358 [.int .u8 t358] from rfl) (Reps.one (show Kd.M (Kd.int .u8) _ _ _ t360 [.int .u8 t360] from rfl) (Reps.one (show Kd.M (Kd.int .u8) _ _ _ t362 [.int .u8 t362] from rfl) (Reps.none _ _))))))
                                intro v364 w31 ho32 hb hg_ hnew_
                                have HS0_ := (hb.cell (World.block_lt_of_cell? _ _ (hHeld.1))).trans (hHeld.1)
                                have HS1_ := (hb.cell (World.block_lt_of_cell? _ _ (hHeld.2.1))).trans (hHeld.2.1)
                                have HS2_ := (hb.cell (World.block_lt_of_cell? _ _ (hHeld.2.2.1))).trans (hHeld.2.2.1)
                                have HS3_ := (hb.cell (World.block_lt_of_cell? _ _ (hHeld.2.2.2))).trans (hHeld.2.2.2)
                                clear hg_ hnew_
                                (first | rw [← Ny363.out] at ho32 | (simp only [Int.reduceToNat] at ho32; rw [← Ny363.out] at ho32))
                                have n0_ := Aside0.mk (Kd.R_elder' (by (with_reducible repeat (first | apply Kd.R_alloc | apply Kd.R_drewN | apply Kd.R_drew)); exact HO_3.out) (Kd.R_base ho32) hb)
                                have n1_ := Aside0.mk (Kd.R_elder' (by (with_reducible repeat (first | apply Kd.R_alloc | apply Kd.R_drewN | apply Kd.R_drew)); exact HO354.out) (Kd.R_base ho32) hb)
                                have n2_ := Aside0.mk (Kd.R_lower (Kd.R_new' (Kd.R_new' ho32 (Kd.R_lt (by (with_reducible repeat (first | apply Kd.R_alloc | apply Kd.R_drewN | apply Kd.R_drew)); exact HO_3.out))) (Kd.R_lt (by (with_reducible repeat (first | apply Kd.R_alloc | apply Kd.R_drewN | apply Kd.R_drew)); exact HO354.out))) (below_size (by repeat (first | (with_reducible first | exact HB.out | apply below_alloc | apply pw_below_drewN | apply below_drew1) | exact HB.out))))
                                have n3_ := Aside0.mk (Kd.C_below (by repeat (first | (with_reducible exact HR351.out) | (with_reducible refine Kd.C_alloc ?_ _) | (with_reducible refine Kd.C_drewN ?_ _) | (with_reducible refine Kd.C_drew ?_) | exact HR351.out)) hb)
                                have n4_ := Aside0.mk (below_step (by repeat (first | (with_reducible first | exact HB.out | apply below_alloc | apply pw_below_drewN | apply below_drew1) | exact HB.out)) hb)
                                clear HO_3
                                clear HO354
                                clear HR351
                                clear HB
                                have HO_3 := n0_
                                have HO354 := n1_
                                have HO365 := n2_
                                have HR351 := n3_
                                have HB := n4_
                                clear n0_ n1_ n2_ n3_ n4_
                                clear hb ho32
                                refine hK.out _ _ ⟨HS0_, HS1_, HS2_, HS3_⟩ (fun hHeld => ?_)
                                clear hK K
                                refine norm_ (a' := ?_) ?_ ?_
                                rotate_left
                                · show Act.put _ (some 42) _ = _
                                  simp only [Act.put, List.setIfInBounds_toArray, List.set_cons_zero, List.set_cons_succ, i64_w, i32_w]
                                  rfl
                                refine pure_ (i := 19) (N := some 6) (v := ?_) (a' := ?_) #[true, true, true, true, true, true, true, true, true, true, true, true, true, true, true, true, true, true, true, true] rfl rfl (any_of HT_.out (by kernel_rfl)) (fun _ _ _ h => h) (Or.inl ⟨by rfl, ?_⟩) ?_ ?_
                                rotate_left
                                · intro w'
                                  go_simp
                                  with_reducible rfl
                                rotate_left
                                · simp only [Act.put, List.setIfInBounds_toArray, List.set_cons_zero, List.set_cons_succ, i64_w, i32_w]
                                  rfl
                                refine done_ (done_of HT_.out (by kernel_rfl)) ?_
                                try go_wp2_with (first | ((with_reducible refine gate_callee (f := 122) rfl ?_); refine goesL_ (some 44) rfl rfl Try.func122 (by kernel_rfl) rfl #[.int .u8 x4_1, .int .u8 2] rfl (by (try simp only [List.map_toArray, List.map_cons, List.map_nil]); first | done | rfl | (simp only [List.length_drop, List.length_take]; rfl)) ?_; (with_reducible refine (spec_l1Mul.calls k1 x4_1 2 t366 _ A19.out).mono ?_); rintro e w' ⟨rfl, ⟨nd, rfl⟩⟩; refine ⟨_, rfl, ?_⟩; have q33 : ((wrap64 ((wrap64 (4 * x5_1)) - 12)) : Int) ≤ ((x3_1.length : Int) : Int) := of_decide_eq_true (by first | (with_reducible assumption) | assumption); obtain ⟨i033, hi033, _, hsz33, _⟩ := info_parts info5; have hroom33 : x3_1.length ≤ co27 := (Kd.R_reads' HO_3.out).2.1; have hC33 : Kd.C (Kd.int .u8) _ Ao27 x3_1.length x3_1 := (Kd.R_reads' HO_3.out).2.2; have ql33 : ((ji20) : Int) ≤ ((wrap64 ((wrap64 (4 * x5_1)) - 12)) : Int) := of_decide_eq_true (by first | (with_reducible assumption) | assumption); have q033 : (0 : Int) ≤ ((ji20) : Int) := of_decide_eq_true (by first | (with_reducible assumption) | assumption); have hcut33 := cut_mid (P := Try.prog) 29 5 .i64 .i64 Try.underlying29 hi033 1 hsz33 Ao27 x3_1.length co27 (ji20) (wrap64 ((wrap64 (4 * x5_1)) - 12)) q033 ql33 q33 hroom33; have hr33 := Kd.C_mid (lo := ((ji20) : Int).toNat) (hi := ((wrap64 ((wrap64 (4 * x5_1)) - 12)) : Int).toNat) (c := co27) hC33 (by omega) (by omega) hroom33; obtain ⟨A33, hA33⟩ : ∃ A1, A1 = (if co27 = ((ji20) : Int).toNat then Ao27 else (Ao27 : Option Addr).map (·.add (((ji20) : Int).toNat * 1))) := ⟨_, rfl⟩; obtain ⟨c33, hc33⟩ : ∃ c1, c1 = co27 - ((ji20) : Int).toNat := ⟨_, rfl⟩; have hy33 : y367.length = ((wrap64 ((wrap64 (4 * x5_1)) - 12)) : Int).toNat - ((ji20) : Int).toNat := (by rw [Ny367.out, List.length_drop, List.length_take] <;> omega); rw [show ((x3_1).take ((wrap64 ((wrap64 (4 * x5_1)) - 12)) : Int).toNat).drop ((ji20) : Int).toNat = y367 from Ny367.out.symm] at hr33; replace hr33 : Kd.C (Kd.int .u8) _ A33 y367.length y367 := (by rw [hA33]; exact hr33); rw [← hy33, ← hA33, ← hc33] at hcut33; have HR370 := Aside0.mk hr33; have HC370 := Aside0.mk (show y367.length ≤ c33 from by rw [hy33, hc33]; exact Nat.sub_le_sub_right (Nat.le_trans (by omega) hroom33) _); clear hr33 hC33 hroom33 hi033 hsz33 hc33; have KY33 := Aside0.mk hy33; have KA33 := Aside0.mk hA33; clear hy33 hA33; have KL33 := Aside0.mk (show ((wrap64 ((wrap64 (4 * x5_1)) - 12)) : Int).toNat ≤ x3_1.length from by omega); have KM33 := Aside0.mk (show ((ji20) : Int).toNat ≤ ((wrap64 ((wrap64 (4 * x5_1)) - 12)) : Int).toNat from by omega); replace q33 := eq_true q33; obtain ⟨Ao34, co34, eo34⟩ := Kd.R_slice HO365.out; subst eo34) | ((with_reducible refine gate_callee (f := 45) rfl ?_); refine goesL_ (some 55) rfl rfl Try.func45 (by kernel_rfl) rfl #[.slice A33 y367.length c33, .slice Ao34 y363.length co34] rfl (by (try simp only [List.map_toArray, List.map_cons, List.map_nil]); first | done | rfl | (simp only [List.length_drop, List.length_take]; rfl)) ?_; (with_reducible refine (spec_l1Xor.calls k1 _ _ y367 _ _ y363 t371 _ ?side1 ?side2 ?side3 ?side4 A24.out).mono ?_); (case side1 => repeat (first | exact (by repeat (first | (with_reducible exact HR370.out) | (with_reducible refine Kd.C_alloc ?_ _) | (with_reducible refine Kd.C_drewN ?_ _) | (with_reducible refine Kd.C_drew ?_) | exact HR370.out)) | (with_reducible refine Kd.C_alloc ?_ _) | (with_reducible refine Kd.C_drewN ?_ _) | (with_reducible refine Kd.C_drew ?_))); (case side2 => exact HC370.out); (case side3 => repeat (first | exact (Kd.R_reads' HO365.out).2.2 | (with_reducible refine Kd.C_alloc ?_ _) | (with_reducible refine Kd.C_drewN ?_ _) | (with_reducible refine Kd.C_drew ?_))); (case side4 => exact (Kd.R_reads' HO365.out).2.1); rintro e w35 ⟨v372, rfl, ho0, hb⟩; refine ⟨_, rfl, ?_⟩; have n0_ := Aside0.mk (Kd.R_elder' (by (with_reducible repeat (first | apply Kd.R_alloc | apply Kd.R_drewN | apply Kd.R_drew)); exact HO_3.out) (Kd.R_base ho0) hb); have n1_ := Aside0.mk (Kd.R_elder' (by (with_reducible repeat (first | apply Kd.R_alloc | apply Kd.R_drewN | apply Kd.R_drew)); exact HO354.out) (Kd.R_base ho0) hb); have n2_ := Aside0.mk (Kd.R_elder' (by (with_reducible repeat (first | apply Kd.R_alloc | apply Kd.R_drewN | apply Kd.R_drew)); exact HO365.out) (Kd.R_base ho0) hb); have n3_ := Aside0.mk (Kd.R_lower (Kd.R_new' (Kd.R_new' (Kd.R_new' ho0 (Kd.R_lt (by (with_reducible repeat (first | apply Kd.R_alloc | apply Kd.R_drewN | apply Kd.R_drew)); exact HO_3.out))) (Kd.R_lt (by (with_reducible repeat (first | apply Kd.R_alloc | apply Kd.R_drewN | apply Kd.R_drew)); exact HO354.out))) (Kd.R_lt (by (with_reducible repeat (first | apply Kd.R_alloc | apply Kd.R_drewN | apply Kd.R_drew)); exact HO365.out))) (below_size (by repeat (first | (with_reducible first | exact HB.out | apply below_alloc | apply pw_below_drewN | apply below_drew1) | exact HB.out)))); have n4_ := Aside0.mk (Kd.C_below (by repeat (first | (with_reducible exact HR351.out) | (with_reducible refine Kd.C_alloc ?_ _) | (with_reducible refine Kd.C_drewN ?_ _) | (with_reducible refine Kd.C_drew ?_) | exact HR351.out)) hb); have n5_ := Aside0.mk (Kd.C_below (by repeat (first | (with_reducible exact HR370.out) | (with_reducible refine Kd.C_alloc ?_ _) | (with_reducible refine Kd.C_drewN ?_ _) | (with_reducible refine Kd.C_drew ?_) | exact HR370.out)) hb); have n6_ := Aside0.mk (below_step (by repeat (first | (with_reducible first | exact HB.out | apply below_alloc | apply pw_below_drewN | apply below_drew1) | exact HB.out)) hb); clear HO_3; clear HO354; clear HO365; clear HR351; clear HR370; clear HB; have HO_3 := n0_; have HO354 := n1_; have HO365 := n2_; have HO373 := n3_; have HR351 := n4_; have HR370 := n5_; have HB := n6_; clear n0_ n1_ n2_ n3_ n4_ n5_ n6_; (try clear hb); (try clear hb2); (try clear hk); (try clear hi); (try clear ho0); obtain ⟨Ao37, co37, eo37⟩ := Kd.R_slice HO373.out; subst eo37) | ((with_reducible refine gate_builtin (b := .append) (xs := #[.tmp 45, .tmp 55]) rfl ?_); at_builtin; refine Kd.R_append_rows (Kd.int .u8) (w0 := w) w.heap.size rfl (.tmp 45) (.tmp 55) 29 5 (.int .u8 0) 1 rfl Try.underlying29 info5 rfl (by decide) (by omega) (.slice Ao27 x3_1.length co27) x3_1 t371 _ _ _ (fun k_ => some k_ ≠ (.slice (some ad355) t352.length co30 : Value).ownBlock ∧ some k_ ≠ (.slice Ao34 y363.length co34 : Value).ownBlock ∧ some k_ ≠ (.slice Ao37 t371.length co37 : Value).ownBlock) (fun _ => False) rfl rfl ?aO ?aR (fun _ _ h => h) (fun _ h => h.elim) ?aF ?aB ?aS ?aL ?_; (case aR => repeat (first | exact (Kd.R_reads' HO373.out).2.2 | (with_reducible refine Kd.C_alloc ?_ _) | (with_reducible refine Kd.C_drewN ?_ _) | (with_reducible refine Kd.C_drew ?_))); (case aB => exact (by repeat (first | (with_reducible first | exact HB.out | apply below_alloc | apply pw_below_drewN | apply below_drew1) | exact HB.out))); (case aF => exact (fun k_ hk => ⟨Kd.fresh' (Kd.R_lt (by (with_reducible repeat (first | apply Kd.R_alloc | apply Kd.R_drewN | apply Kd.R_drew)); exact HO354.out)) k_ hk, Kd.fresh' (Kd.R_lt (by (with_reducible repeat (first | apply Kd.R_alloc | apply Kd.R_drewN | apply Kd.R_drew)); exact HO365.out)) k_ hk, Kd.fresh' (Kd.R_lt (by (with_reducible repeat (first | apply Kd.R_alloc | apply Kd.R_drewN | apply Kd.R_drew)); exact HO373.out)) k_ hk⟩)); (case aO => exact (by (with_reducible repeat (first | apply Kd.R_alloc | apply Kd.R_drewN | apply Kd.R_drew)); exact Kd.R_mono HO_3.out (fun _ hk => ⟨hk.1.1.2, ⟨hk.1.2, hk.2⟩⟩))); (case aS => exact (below_size (by repeat (first | (with_reducible first | exact HB.out | apply below_alloc | apply pw_below_drewN | apply below_drew1) | exact HB.out)))); (case aL => have := LMc25.out; omega); intro v375 w36 ho hb hg hat; rw [← Ny374.out] at ho; have n0_ := Aside0.mk (Kd.R_after (ok := (fun k_ => some k_ ≠ (.slice Ao34 y363.length co34 : Value).ownBlock ∧ some k_ ≠ (.slice Ao37 t371.length co37 : Value).ownBlock)) (by (with_reducible repeat (first | apply Kd.R_alloc | apply Kd.R_drewN | apply Kd.R_drew)); exact Kd.R_mono HO354.out (fun _ hk => ⟨⟨hk.1.2, hk.2⟩, hk.1.1.2⟩)) hg hat); have n1_ := Aside0.mk (Kd.R_after (ok := (fun k_ => some k_ ≠ (.slice (some ad355) t352.length co30 : Value).ownBlock ∧ some k_ ≠ (.slice Ao37 t371.length co37 : Value).ownBlock)) (by (with_reducible repeat (first | apply Kd.R_alloc | apply Kd.R_drewN | apply Kd.R_drew)); exact Kd.R_mono HO365.out (fun _ hk => ⟨⟨hk.1.2, hk.2⟩, hk.1.1.2⟩)) hg hat); have n2_ := Aside0.mk (Kd.R_after (ok := (fun k_ => some k_ ≠ (.slice (some ad355) t352.length co30 : Value).ownBlock ∧ some k_ ≠ (.slice Ao34 y363.length co34 : Value).ownBlock)) (by (with_reducible repeat (first | apply Kd.R_alloc | apply Kd.R_drewN | apply Kd.R_drew)); exact Kd.R_mono HO373.out (fun _ hk => ⟨⟨hk.1.2, hk.2⟩, hk.1.1.2⟩)) hg hat); have n3_ := Aside0.mk (hb); have n4_ := Aside0.mk (ho); clear HO354; clear HO365; clear HO373; clear HB; clear HO_3; have HO354 := n0_; have HO365 := n1_; have HO373 := n2_; have HB := n3_; have HO376 := n4_; clear n0_ n1_ n2_ n3_ n4_; clear ho hb hg hat))
                                go_roundg k1
                                case measure => have := HK1.out; omega
                                case rel => exact ⟨(y374), (t366), (wrap64 (x5_1 + 1)), (by first | rfl | (simp; done) | (simp [*]; done)), (by first | rfl | (simp; done) | (simp [*]; done)), H', ⟨by have := HK1.out; omega⟩, ⟨by (with_reducible repeat (first | apply Kd.R_alloc | apply Kd.R_drewN | apply Kd.R_drew)); exact Kd.R_mono HO376.out (fun _ hk => trivial)⟩, ⟨by repeat (first | (with_reducible first | exact HB.out | apply below_alloc | apply pw_below_drewN | apply below_drew1) | exact HB.out)⟩⟩
                              · rw [if_neg c25] at H
                                exact absurd H (by simp)
                            · rw [if_neg c23] at H
                              exact absurd H (by simp)
                          · rw [if_neg c22] at H
                            exact absurd H (by simp)
                        · rw [if_neg c21] at H
                          exact absurd H (by simp)
                      · rw [if_neg c17] at H
                        exact absurd H (by simp)
                    · rw [if_neg c15] at H
                      exact absurd H (by simp)
                  · rw [if_neg c13] at H
                    exact absurd H (by simp)
                · rw [if_neg c11] at H
                  exact absurd H (by simp)
              · rw [if_neg c10] at H
                have c10b0 : ((Int.tmod x5_1 4) == 0) = false := beq_eq_false_iff_ne.mpr c10
                have c10b1 : ((Int.tmod x5_1 4) != 0) = true := bne_iff_ne.mpr c10
                obtain ⟨ji38, hji38⟩ : ∃ j_ : Int, (wrap64 ((wrap64 (4 * x5_1)) - 16)) = j_ := ⟨_, rfl⟩
                replace H : (if 0 ≤ (ji38) then (if (ji38) ≤ (wrap64 ((wrap64 (4 * x5_1)) - 12)) then (if (wrap64 ((wrap64 (4 * x5_1)) - 12)) ≤ (x3_1.length : Int) then ((spec_l1Xor.f k1 ((x3_1.take ((wrap64 ((wrap64 (4 * x5_1)) - 12)) : Int).toNat).drop ((ji38) : Int).toNat) t352).bind fun t381 => (if x3_1.length + t381.length < 140737488355328 then (spec_l1Words.l0 k1 (x3_1 ++ t381) x4_1 (wrap64 (x5_1 + 1))) else (none))) else (none)) else (none)) else (none)) = some r := by first | (rw [hji38] at H; exact H) | (simp only [hji38] at H ⊢; exact H)
                (try rw [hji38] at A9)
                have hji38w : (IntKind.i64.wrap ((wrap64 (4 * x5_1)) - 16)) = ji38 := (i64_w _).trans hji38
                by_cases c39 : 0 ≤ (ji38)
                · rw [if_pos c39] at H
                  have c39b0 := eq_true c39
                  have c39b1 : decide (0 ≤ (ji38)) = true := decide_eq_true c39
                  clear c39
                  by_cases c40 : (ji38) ≤ (wrap64 ((wrap64 (4 * x5_1)) - 12))
                  · rw [if_pos c40] at H
                    have c40b0 := eq_true c40
                    have c40b1 : decide ((ji38) ≤ (wrap64 ((wrap64 (4 * x5_1)) - 12))) = true := decide_eq_true c40
                    clear c40
                    by_cases c41 : (wrap64 ((wrap64 (4 * x5_1)) - 12)) ≤ (x3_1.length : Int)
                    · rw [if_pos c41] at H
                      have c41b0 := eq_true c41
                      have c41b1 : decide ((wrap64 ((wrap64 (4 * x5_1)) - 12)) ≤ (x3_1.length : Int)) = true := decide_eq_true c41
                      clear c41
                      obtain ⟨y377, hy377⟩ : ∃ y_ : List Int, y_ = ((x3_1.take ((wrap64 ((wrap64 (4 * x5_1)) - 12)) : Int).toNat).drop ((ji38) : Int).toNat) := ⟨_, rfl⟩
                      replace H : ((spec_l1Xor.f k1 y377 t352).bind fun t381 => (if x3_1.length + t381.length < 140737488355328 then (spec_l1Words.l0 k1 (x3_1 ++ t381) x4_1 (wrap64 (x5_1 + 1))) else (none))) = some r := by first | (rw [hy377]; with_reducible exact H) | (have H2_ := (Option.bind_some _ _).symm.trans H; rw [hy377]; with_reducible exact H2_) | (have H2_ := (Option.bind_some _ _).symm.trans H; with_reducible exact H2_) | with_reducible exact H | (rw [hy377]; exact H) | exact H
                      have Ny377 := Aside0.mk hy377
                      clear hy377
                      replace H := Option.bind_eq_some_iff.mp H
                      obtain ⟨t381, A420, H⟩ := H
                      replace H : (if x3_1.length + t381.length < 140737488355328 then (spec_l1Words.l0 k1 (x3_1 ++ t381) x4_1 (wrap64 (x5_1 + 1))) else (none)) = some r := H
                      have A42 := Aside0.mk A420
                      clear A420
                      by_cases c43 : x3_1.length + t381.length < 140737488355328
                      · rw [if_pos c43] at H
                        have LMc43 := Aside0.mk c43
                        clear c43
                        obtain ⟨y384, hy384⟩ : ∃ y_ : List Int, y_ = (x3_1 ++ t381) := ⟨_, rfl⟩
                        replace H : (spec_l1Words.l0 k1 y384 x4_1 (wrap64 (x5_1 + 1))) = some r := by first | (rw [hy384]; with_reducible exact H) | (have H2_ := (Option.bind_some _ _).symm.trans H; rw [hy384]; with_reducible exact H2_) | (have H2_ := (Option.bind_some _ _).symm.trans H; with_reducible exact H2_) | with_reducible exact H | (rw [hy384]; exact H) | exact H
                        have Ny384 := Aside0.mk hy384
                        clear hy384
                        have H' := Aside0.mk H
                        clear H
                        obtain ⟨Ao45, co45, eo45⟩ := Kd.R_slice HO_3.out
                        subst eo45
                        have q44 : ((wrap64 (4 * x5_1)) : Int) ≤ ((x3_1.length : Int) : Int) := of_decide_eq_true (by first | (with_reducible assumption) | assumption)
                        obtain ⟨i044, hi044, _, hsz44, _⟩ := info_parts info5
                        have hroom44 : x3_1.length ≤ co45 := (Kd.R_reads' HO_3.out).2.1
                        have hC44 : Kd.C (Kd.int .u8) _ Ao45 x3_1.length x3_1 := (Kd.R_reads' HO_3.out).2.2
                        have ql44 : ((ji5) : Int) ≤ ((wrap64 (4 * x5_1)) : Int) := of_decide_eq_true (by first | (with_reducible assumption) | assumption)
                        have q044 : (0 : Int) ≤ ((ji5) : Int) := of_decide_eq_true (by first | (with_reducible assumption) | assumption)
                        have hcut44 := cut_mid (P := Try.prog) 29 5 .i64 .i64 Try.underlying29 hi044 1 hsz44 Ao45 x3_1.length co45 (ji5) (wrap64 (4 * x5_1)) q044 ql44 q44 hroom44
                        have hr44 := Kd.C_mid (lo := ((ji5) : Int).toNat) (hi := ((wrap64 (4 * x5_1)) : Int).toNat) (c := co45) hC44 (by omega) (by omega) hroom44
                        obtain ⟨A44, hA44⟩ : ∃ A1, A1 = (if co45 = ((ji5) : Int).toNat then Ao45 else (Ao45 : Option Addr).map (·.add (((ji5) : Int).toNat * 1))) := ⟨_, rfl⟩
                        obtain ⟨c44, hc44⟩ : ∃ c1, c1 = co45 - ((ji5) : Int).toNat := ⟨_, rfl⟩
                        have hy44 : y348.length = ((wrap64 (4 * x5_1)) : Int).toNat - ((ji5) : Int).toNat := (by rw [Ny348.out, List.length_drop, List.length_take] <;> omega)
                        rw [show ((x3_1).take ((wrap64 (4 * x5_1)) : Int).toNat).drop ((ji5) : Int).toNat = y348 from Ny348.out.symm] at hr44
                        replace hr44 : Kd.C (Kd.int .u8) _ A44 y348.length y348 := (by rw [hA44]; exact hr44)
                        rw [← hy44, ← hA44, ← hc44] at hcut44
                        have HR351 := Aside0.mk hr44
                        have HC351 := Aside0.mk (show y348.length ≤ c44 from by rw [hy44, hc44]; exact Nat.sub_le_sub_right (Nat.le_trans (by omega) hroom44) _)
                        clear hr44 hC44 hroom44 hi044 hsz44 hc44
                        have KY44 := Aside0.mk hy44
                        have KA44 := Aside0.mk hA44
                        clear hy44 hA44
                        have KL44 := Aside0.mk (show ((wrap64 (4 * x5_1)) : Int).toNat ≤ x3_1.length from by omega)
                        have KM44 := Aside0.mk (show ((ji5) : Int).toNat ≤ ((wrap64 (4 * x5_1)) : Int).toNat from by omega)
                        replace q44 := eq_true q44
                        go_wp2_with (first | ((with_reducible refine gate_callee (f := 97) rfl ?_); refine goesL_ (some 20) rfl rfl Try.func97 (by kernel_rfl) rfl #[.slice A44 y348.length c44] rfl (by (try simp only [List.map_toArray, List.map_cons, List.map_nil]); first | done | rfl | (simp only [List.length_drop, List.length_take]; rfl)) ?_; (with_reducible refine (spec_l1Bytes.calls _ _ y348 t352 _ ?side1 ?side2 A9.out).mono ?_); (case side1 => repeat (first | exact (by repeat (first | (with_reducible exact HR351.out) | (with_reducible refine Kd.C_alloc ?_ _) | (with_reducible refine Kd.C_drewN ?_ _) | (with_reducible refine Kd.C_drew ?_) | exact HR351.out)) | (with_reducible refine Kd.C_alloc ?_ _) | (with_reducible refine Kd.C_drewN ?_ _) | (with_reducible refine Kd.C_drew ?_))); (case side2 => exact HC351.out); rintro e w46 ⟨v353, rfl, ho0, hb⟩; refine ⟨_, rfl, ?_⟩; have n0_ := Aside0.mk (Kd.R_elder' (by (with_reducible repeat (first | apply Kd.R_alloc | apply Kd.R_drewN | apply Kd.R_drew)); exact HO_3.out) (Kd.R_base ho0) hb); have n1_ := Aside0.mk (Kd.R_lower (Kd.R_new' ho0 (Kd.R_lt (by (with_reducible repeat (first | apply Kd.R_alloc | apply Kd.R_drewN | apply Kd.R_drew)); exact HO_3.out))) (below_size (by repeat (first | (with_reducible first | exact HB.out | apply below_alloc | apply pw_below_drewN | apply below_drew1) | exact HB.out)))); have n2_ := Aside0.mk (Kd.C_below (by repeat (first | (with_reducible exact HR351.out) | (with_reducible refine Kd.C_alloc ?_ _) | (with_reducible refine Kd.C_drewN ?_ _) | (with_reducible refine Kd.C_drew ?_) | exact HR351.out)) hb); have n3_ := Aside0.mk (below_step (by repeat (first | (with_reducible first | exact HB.out | apply below_alloc | apply pw_below_drewN | apply below_drew1) | exact HB.out)) hb); clear HO_3; clear HR351; clear HB; have HO_3 := n0_; have HO354 := n1_; have HR351 := n2_; have HB := n3_; clear n0_ n1_ n2_ n3_; (try clear hb); (try clear hb2); (try clear hk); (try clear hi); (try clear ho0); have q47 : ((wrap64 ((wrap64 (4 * x5_1)) - 12)) : Int) ≤ ((x3_1.length : Int) : Int) := of_decide_eq_true (by first | (with_reducible assumption) | assumption); obtain ⟨i047, hi047, _, hsz47, _⟩ := info_parts info5; have hroom47 : x3_1.length ≤ co45 := (Kd.R_reads' HO_3.out).2.1; have hC47 : Kd.C (Kd.int .u8) _ Ao45 x3_1.length x3_1 := (Kd.R_reads' HO_3.out).2.2; have ql47 : ((ji38) : Int) ≤ ((wrap64 ((wrap64 (4 * x5_1)) - 12)) : Int) := of_decide_eq_true (by first | (with_reducible assumption) | assumption); have q047 : (0 : Int) ≤ ((ji38) : Int) := of_decide_eq_true (by first | (with_reducible assumption) | assumption); have hcut47 := cut_mid (P := Try.prog) 29 5 .i64 .i64 Try.underlying29 hi047 1 hsz47 Ao45 x3_1.length co45 (ji38) (wrap64 ((wrap64 (4 * x5_1)) - 12)) q047 ql47 q47 hroom47; have hr47 := Kd.C_mid (lo := ((ji38) : Int).toNat) (hi := ((wrap64 ((wrap64 (4 * x5_1)) - 12)) : Int).toNat) (c := co45) hC47 (by omega) (by omega) hroom47; obtain ⟨A47, hA47⟩ : ∃ A1, A1 = (if co45 = ((ji38) : Int).toNat then Ao45 else (Ao45 : Option Addr).map (·.add (((ji38) : Int).toNat * 1))) := ⟨_, rfl⟩; obtain ⟨c47, hc47⟩ : ∃ c1, c1 = co45 - ((ji38) : Int).toNat := ⟨_, rfl⟩; have hy47 : y377.length = ((wrap64 ((wrap64 (4 * x5_1)) - 12)) : Int).toNat - ((ji38) : Int).toNat := (by rw [Ny377.out, List.length_drop, List.length_take] <;> omega); rw [show ((x3_1).take ((wrap64 ((wrap64 (4 * x5_1)) - 12)) : Int).toNat).drop ((ji38) : Int).toNat = y377 from Ny377.out.symm] at hr47; replace hr47 : Kd.C (Kd.int .u8) _ A47 y377.length y377 := (by rw [hA47]; exact hr47); rw [← hy47, ← hA47, ← hc47] at hcut47; have HR380 := Aside0.mk hr47; have HC380 := Aside0.mk (show y377.length ≤ c47 from by rw [hy47, hc47]; exact Nat.sub_le_sub_right (Nat.le_trans (by omega) hroom47) _); clear hr47 hC47 hroom47 hi047 hsz47 hc47; have KY47 := Aside0.mk hy47; have KA47 := Aside0.mk hA47; clear hy47 hA47; have KL47 := Aside0.mk (show ((wrap64 ((wrap64 (4 * x5_1)) - 12)) : Int).toNat ≤ x3_1.length from by omega); have KM47 := Aside0.mk (show ((ji38) : Int).toNat ≤ ((wrap64 ((wrap64 (4 * x5_1)) - 12)) : Int).toNat from by omega); replace q47 := eq_true q47; obtain ⟨Ao48, co48, eo48⟩ := Kd.R_slice HO354.out; subst eo48) | ((with_reducible refine gate_callee (f := 45) rfl ?_); refine goesL_ (some 55) rfl rfl Try.func45 (by kernel_rfl) rfl #[.slice A47 y377.length c47, .slice Ao48 t352.length co48] rfl (by (try simp only [List.map_toArray, List.map_cons, List.map_nil]); first | done | rfl | (simp only [List.length_drop, List.length_take]; rfl)) ?_; (with_reducible refine (spec_l1Xor.calls k1 _ _ y377 _ _ t352 t381 _ ?side1 ?side2 ?side3 ?side4 A42.out).mono ?_); (case side1 => repeat (first | exact (by repeat (first | (with_reducible exact HR380.out) | (with_reducible refine Kd.C_alloc ?_ _) | (with_reducible refine Kd.C_drewN ?_ _) | (with_reducible refine Kd.C_drew ?_) | exact HR380.out)) | (with_reducible refine Kd.C_alloc ?_ _) | (with_reducible refine Kd.C_drewN ?_ _) | (with_reducible refine Kd.C_drew ?_))); (case side2 => exact HC380.out); (case side3 => repeat (first | exact (Kd.R_reads' HO354.out).2.2 | (with_reducible refine Kd.C_alloc ?_ _) | (with_reducible refine Kd.C_drewN ?_ _) | (with_reducible refine Kd.C_drew ?_))); (case side4 => exact (Kd.R_reads' HO354.out).2.1); rintro e w49 ⟨v382, rfl, ho0, hb⟩; refine ⟨_, rfl, ?_⟩; have n0_ := Aside0.mk (Kd.R_elder' (by (with_reducible repeat (first | apply Kd.R_alloc | apply Kd.R_drewN | apply Kd.R_drew)); exact HO_3.out) (Kd.R_base ho0) hb); have n1_ := Aside0.mk (Kd.R_elder' (by (with_reducible repeat (first | apply Kd.R_alloc | apply Kd.R_drewN | apply Kd.R_drew)); exact HO354.out) (Kd.R_base ho0) hb); have n2_ := Aside0.mk (Kd.R_lower (Kd.R_new' (Kd.R_new' ho0 (Kd.R_lt (by (with_reducible repeat (first | apply Kd.R_alloc | apply Kd.R_drewN | apply Kd.R_drew)); exact HO_3.out))) (Kd.R_lt (by (with_reducible repeat (first | apply Kd.R_alloc | apply Kd.R_drewN | apply Kd.R_drew)); exact HO354.out))) (below_size (by repeat (first | (with_reducible first | exact HB.out | apply below_alloc | apply pw_below_drewN | apply below_drew1) | exact HB.out)))); have n3_ := Aside0.mk (Kd.C_below (by repeat (first | (with_reducible exact HR351.out) | (with_reducible refine Kd.C_alloc ?_ _) | (with_reducible refine Kd.C_drewN ?_ _) | (with_reducible refine Kd.C_drew ?_) | exact HR351.out)) hb); have n4_ := Aside0.mk (Kd.C_below (by repeat (first | (with_reducible exact HR380.out) | (with_reducible refine Kd.C_alloc ?_ _) | (with_reducible refine Kd.C_drewN ?_ _) | (with_reducible refine Kd.C_drew ?_) | exact HR380.out)) hb); have n5_ := Aside0.mk (below_step (by repeat (first | (with_reducible first | exact HB.out | apply below_alloc | apply pw_below_drewN | apply below_drew1) | exact HB.out)) hb); clear HO_3; clear HO354; clear HR351; clear HR380; clear HB; have HO_3 := n0_; have HO354 := n1_; have HO383 := n2_; have HR351 := n3_; have HR380 := n4_; have HB := n5_; clear n0_ n1_ n2_ n3_ n4_ n5_; (try clear hb); (try clear hb2); (try clear hk); (try clear hi); (try clear ho0); obtain ⟨Ao51, co51, eo51⟩ := Kd.R_slice HO383.out; subst eo51) | ((with_reducible refine gate_builtin (b := .append) (xs := #[.tmp 45, .tmp 55]) rfl ?_); at_builtin; refine Kd.R_append_rows (Kd.int .u8) (w0 := w) w.heap.size rfl (.tmp 45) (.tmp 55) 29 5 (.int .u8 0) 1 rfl Try.underlying29 info5 rfl (by decide) (by omega) (.slice Ao45 x3_1.length co45) x3_1 t381 _ _ _ (fun k_ => some k_ ≠ (.slice Ao48 t352.length co48 : Value).ownBlock ∧ some k_ ≠ (.slice Ao51 t381.length co51 : Value).ownBlock) (fun _ => False) rfl rfl ?aO ?aR (fun _ _ h => h) (fun _ h => h.elim) ?aF ?aB ?aS ?aL ?_; (case aR => repeat (first | exact (Kd.R_reads' HO383.out).2.2 | (with_reducible refine Kd.C_alloc ?_ _) | (with_reducible refine Kd.C_drewN ?_ _) | (with_reducible refine Kd.C_drew ?_))); (case aB => exact (by repeat (first | (with_reducible first | exact HB.out | apply below_alloc | apply pw_below_drewN | apply below_drew1) | exact HB.out))); (case aF => exact (fun k_ hk => ⟨Kd.fresh' (Kd.R_lt (by (with_reducible repeat (first | apply Kd.R_alloc | apply Kd.R_drewN | apply Kd.R_drew)); exact HO354.out)) k_ hk, Kd.fresh' (Kd.R_lt (by (with_reducible repeat (first | apply Kd.R_alloc | apply Kd.R_drewN | apply Kd.R_drew)); exact HO383.out)) k_ hk⟩)); (case aO => exact (by (with_reducible repeat (first | apply Kd.R_alloc | apply Kd.R_drewN | apply Kd.R_drew)); exact Kd.R_mono HO_3.out (fun _ hk => ⟨hk.1.2, hk.2⟩))); (case aS => exact (below_size (by repeat (first | (with_reducible first | exact HB.out | apply below_alloc | apply pw_below_drewN | apply below_drew1) | exact HB.out)))); (case aL => have := LMc43.out; omega); intro v385 w50 ho hb hg hat; rw [← Ny384.out] at ho; have n0_ := Aside0.mk (Kd.R_after (ok := (fun k_ => some k_ ≠ (.slice Ao51 t381.length co51 : Value).ownBlock)) (by (with_reducible repeat (first | apply Kd.R_alloc | apply Kd.R_drewN | apply Kd.R_drew)); exact Kd.R_mono HO354.out (fun _ hk => ⟨hk.2, hk.1.2⟩)) hg hat); have n1_ := Aside0.mk (Kd.R_after (ok := (fun k_ => some k_ ≠ (.slice Ao48 t352.length co48 : Value).ownBlock)) (by (with_reducible repeat (first | apply Kd.R_alloc | apply Kd.R_drewN | apply Kd.R_drew)); exact Kd.R_mono HO383.out (fun _ hk => ⟨hk.2, hk.1.2⟩)) hg hat); have n2_ := Aside0.mk (hb); have n3_ := Aside0.mk (ho); clear HO354; clear HO383; clear HB; clear HO_3; have HO354 := n0_; have HO383 := n1_; have HB := n2_; have HO386 := n3_; clear n0_ n1_ n2_ n3_; clear ho hb hg hat))
                        go_roundg k1
                        case measure => have := HK1.out; omega
                        case rel => exact ⟨(y384), (x4_1), (wrap64 (x5_1 + 1)), (by first | rfl | (simp; done) | (simp [*]; done)), (by first | rfl | (simp; done) | (simp [*]; done)), H', ⟨by have := HK1.out; omega⟩, ⟨by (with_reducible repeat (first | apply Kd.R_alloc | apply Kd.R_drewN | apply Kd.R_drew)); exact Kd.R_mono HO386.out (fun _ hk => trivial)⟩, ⟨by repeat (first | (with_reducible first | exact HB.out | apply below_alloc | apply pw_below_drewN | apply below_drew1) | exact HB.out)⟩⟩
                      · rw [if_neg c43] at H
                        exact absurd H (by simp)
                    · rw [if_neg c41] at H
                      exact absurd H (by simp)
                  · rw [if_neg c40] at H
                    exact absurd H (by simp)
                · rw [if_neg c39] at H
                  exact absurd H (by simp)
            · rw [if_neg c8] at H
              exact absurd H (by simp)
          · rw [if_neg c7] at H
            exact absurd H (by simp)
        · rw [if_neg c6] at H
          exact absurd H (by simp)
      · rw [if_neg c4] at H
        have c4b0 : decide (x5_1 < 44) = false := decide_eq_false c4
        clear c4
        obtain rfl := Option.some.inj H
        go_wp2
        go_ret
        exact ⟨_, by first | rfl | (simp [errW_none, errW_some] <;> rfl) | (simp [*, errW_none, errW_some] <;> rfl), by (with_reducible repeat (first | apply Kd.R_alloc | apply Kd.R_drewN | apply Kd.R_drew)); exact HO_3.out, by repeat (first | (with_reducible first | exact HB.out | apply below_alloc | apply pw_below_drewN | apply below_drew1) | exact HB.out)⟩

mutual
def spec_l1Shift.l0 : Nat → List Int → Int → List Int → Int → Option (List Int)
  | 0, _, _, _, _ => none
  | k + 1, x0, x1, x5, x6 => if x6 < 4 then (spec_l1Shift.l1 k x0 x1 x5 x6 0) else (some x5)
def spec_l1Shift.l1 : Nat → List Int → Int → List Int → Int → Int → Option (List Int)
  | 0, _, _, _, _, _ => none
  | k + 1, x0, x1, x5, x6, x7 => if x7 < 4 then (if 0 ≤ (wrap64 ((wrap64 (4 * (Int.tmod (wrap64 (x6 + (wrap64 (x1 * x7)))) 4))) + x7)) then (if (wrap64 ((wrap64 (4 * (Int.tmod (wrap64 (x6 + (wrap64 (x1 * x7)))) 4))) + x7)) < (x0.length : Int) then (if 0 ≤ (wrap64 ((wrap64 (4 * x6)) + x7)) then (if (wrap64 ((wrap64 (4 * x6)) + x7)) < (x5.length : Int) then (spec_l1Shift.l1 k x0 x1 (x5.set ((wrap64 ((wrap64 (4 * x6)) + x7)) : Int).toNat (rd x0 (wrap64 ((wrap64 (4 * (Int.tmod (wrap64 (x6 + (wrap64 (x1 * x7)))) 4))) + x7)))) x6 (wrap64 (x7 + 1))) else (none)) else (none)) else (none)) else (none)) else (spec_l1Shift.l0 k x0 x1 x5 (wrap64 (x6 + 1)))
end
def spec_l1Shift.f (k : Nat) (l0 : List Int) (a1 : Int) : Option (List Int) := if 16 ≤ 281474976710656 then (spec_l1Shift.l0 k l0 a1 (List.replicate 16 0) 0) else (none)
set_option maxHeartbeats 8000000 in
set_option maxRecDepth 100000 in
theorem spec_l1Shift.calls (k : Nat) (A0 : Option Addr) (c0 : Nat) (l0 : List Int) (a1 : Int) (r : List Int) (w : World) (hr0 : Kd.C (Kd.int .u8) w A0 l0.length l0) (hc0 : l0.length ≤ c0) (h : spec_l1Shift.f k l0 a1 = some r) :
    Calls Try.prog 115 #[.slice A0 l0.length c0, .int .i64 a1] w fun e w' => ∃ v0_ : Value, e = .returned (v0_) ∧ Kd.R (Kd.int .u8) 5 w' w.heap.size (fun _ => True) v0_ r ∧ Below w.heap.size w w' := by
  have HR0 := Aside0.mk hr0
  have HC0 := Aside0.mk hc0
  clear hr0 hc0
  have HB := Aside0.mk (Below.refl w.heap.size w)
  have H : (if 16 ≤ 281474976710656 then (spec_l1Shift.l0 k l0 a1 (List.replicate 16 0) 0) else (none)) = some r := h
  clear h
  by_cases c3 : 16 ≤ 281474976710656
  · rw [if_pos c3] at H
    have c3b0 := eq_true c3
    have c3b1 : decide (16 ≤ 281474976710656) = true := decide_eq_true c3
    clear c3
    obtain ⟨y387, hy387⟩ : ∃ y_ : List Int, y_ = (List.replicate 16 0) := ⟨_, rfl⟩
    replace H : (spec_l1Shift.l0 k l0 a1 y387 0) = some r := by first | (rw [hy387]; with_reducible exact H) | (have H2_ := (Option.bind_some _ _).symm.trans H; rw [hy387]; with_reducible exact H2_) | (have H2_ := (Option.bind_some _ _).symm.trans H; with_reducible exact H2_) | with_reducible exact H | (rw [hy387]; exact H) | exact H
    have Ny387 := Aside0.mk hy387
    clear hy387
    have H' := Aside0.mk H
    clear H
    go_enter Try.func115, Try.ntmps115
    go_wp2_with (first | ((with_reducible refine gate_dst (N := 8) rfl ?_); refine Kd.R_make (Kd.int .u8) _ 5 rfl (N := 8) rfl 29 _ _ rfl 16 rfl rfl Try.underlying29 (.int .u8 0) 1 info5 rfl (by decide) (by omega) 0 (ok := fun _ => True) (okp := fun _ => True) rfl (fun _ hk => hk) trivial (by omega) (by omega) (Below.refl _ _) (Nat.le_refl _) ?_; intro v388 w4 ho5 hb hg_ hnew_; clear hg_ hnew_; (first | rw [← Ny387.out] at ho5 | (simp only [Int.reduceToNat] at ho5; rw [← Ny387.out] at ho5)); have n0_ := Aside0.mk (Kd.R_lower ho5 (below_size (by repeat (first | (with_reducible first | exact HB.out | apply below_alloc | apply pw_below_drewN | apply below_drew1) | exact HB.out)))); have n1_ := Aside0.mk (below_step (by repeat (first | (with_reducible first | exact HB.out | apply below_alloc | apply pw_below_drewN | apply below_drew1) | exact HB.out)) hb); clear HB; have HO389 := n0_; have HB := n1_; clear n0_ n1_; clear hb ho5))
    go_loopg [6] k (fun kq v6 w' => ∃ (x5_1 : List Int) (x6_1 : Int), v6 = .int .i64 x6_1 ∧ Aside0 (spec_l1Shift.l0 kq l0 a1 x5_1 x6_1 = some r) ∧ Aside0 (kq ≤ k) ∧ Aside0 (Kd.R (Kd.int .u8) 5 w' w.heap.size (fun _ => True) v388 x5_1) ∧ Aside0 (Below w.heap.size w w'))
    case atStart => exact ⟨(y387), (0), (by first | rfl | (simp; done) | (simp [*]; done)), H', ⟨Nat.le_refl _⟩, ⟨by (with_reducible repeat (first | apply Kd.R_alloc | apply Kd.R_drewN | apply Kd.R_drew)); exact HO389.out⟩, ⟨by repeat (first | (with_reducible first | exact HB.out | apply below_alloc | apply pw_below_drewN | apply below_drew1) | exact HB.out)⟩⟩
    case round =>
      clear H'
      try clear c1
      try clear p2
      try clear c3
      try clear c3b0
      try clear c3b1
      obtain ⟨x5_1, x6_1, rfl, HA, HK1, HO_5, HB⟩ := hrel
      cases gk with
      | zero => exact absurd HA.out (by simp [spec_l1Shift.l0])
      | succ k1 =>
        have H := HA.out
        clear HA
        simp only [spec_l1Shift.l0] at H
        by_cases c6 : x6_1 < 4
        · rw [if_pos c6] at H
          have c6b0 : decide (x6_1 < 4) = true := decide_eq_true c6
          clear c6
          have H' := Aside0.mk H
          clear H
          go_wp2
          go_loopg [7] k1 (fun kq v7 w' => ∃ (x5_2 : List Int) (x7_2 : Int), v7 = .int .i64 x7_2 ∧ Aside0 (spec_l1Shift.l1 kq l0 a1 x5_2 x6_1 x7_2 = some r) ∧ Aside0 (kq ≤ k1) ∧ Aside0 (Kd.R (Kd.int .u8) 5 w' w.heap.size (fun _ => True) v388 x5_2) ∧ Aside0 (Below w.heap.size w w'))
          case atStart => exact ⟨(x5_1), (0), (by first | rfl | (simp; done) | (simp [*]; done)), H', ⟨Nat.le_refl _⟩, ⟨by (with_reducible repeat (first | apply Kd.R_alloc | apply Kd.R_drewN | apply Kd.R_drew)); exact HO_5.out⟩, ⟨by repeat (first | (with_reducible first | exact HB.out | apply below_alloc | apply pw_below_drewN | apply below_drew1) | exact HB.out)⟩⟩
          case round =>
            clear H'
            try clear c1
            try clear p2
            try clear c3
            try clear c3b0
            try clear c3b1
            try clear c6
            try clear c6b0
            try clear p2
            obtain ⟨x5_2, x7_2, rfl, HA, HK2, HO_5, HB⟩ := hrel
            cases gk with
            | zero => exact absurd HA.out (by simp [spec_l1Shift.l1])
            | succ k2 =>
              have H := HA.out
              clear HA
              simp only [spec_l1Shift.l1] at H
              by_cases c7 : x7_2 < 4
              · rw [if_pos c7] at H
                have c7b0 : decide (x7_2 < 4) = true := decide_eq_true c7
                clear c7
                obtain ⟨ji8, hji8⟩ : ∃ j_ : Int, (wrap64 ((wrap64 (4 * (Int.tmod (wrap64 (x6_1 + (wrap64 (a1 * x7_2)))) 4))) + x7_2)) = j_ := ⟨_, rfl⟩
                replace H : (if 0 ≤ (ji8) then (if (ji8) < (l0.length : Int) then (if 0 ≤ (wrap64 ((wrap64 (4 * x6_1)) + x7_2)) then (if (wrap64 ((wrap64 (4 * x6_1)) + x7_2)) < (x5_2.length : Int) then (spec_l1Shift.l1 k2 l0 a1 (x5_2.set ((wrap64 ((wrap64 (4 * x6_1)) + x7_2)) : Int).toNat (rd l0 (ji8))) x6_1 (wrap64 (x7_2 + 1))) else (none)) else (none)) else (none)) else (none)) = some r := by first | (rw [hji8] at H; exact H) | (simp only [hji8] at H ⊢; exact H)
                have hji8w : (IntKind.i64.wrap ((wrap64 (4 * (Int.tmod (wrap64 (x6_1 + (wrap64 (a1 * x7_2)))) 4))) + x7_2)) = ji8 := (i64_w _).trans hji8
                by_cases c9 : 0 ≤ (ji8)
                · rw [if_pos c9] at H
                  have c9b0 : decide (0 ≤ (ji8)) = true := decide_eq_true c9
                  clear c9
                  by_cases c10 : (ji8) < (l0.length : Int)
                  · rw [if_pos c10] at H
                    have c10b0 : decide ((ji8) < (l0.length : Int)) = true := decide_eq_true c10
                    clear c10
                    obtain ⟨ji11, hji11⟩ : ∃ j_ : Int, (wrap64 ((wrap64 (4 * x6_1)) + x7_2)) = j_ := ⟨_, rfl⟩
                    replace H : (if 0 ≤ (ji11) then (if (ji11) < (x5_2.length : Int) then (spec_l1Shift.l1 k2 l0 a1 (x5_2.set ((ji11) : Int).toNat (rd l0 (ji8))) x6_1 (wrap64 (x7_2 + 1))) else (none)) else (none)) = some r := by first | (rw [hji11] at H; exact H) | (simp only [hji11] at H ⊢; exact H)
                    have hji11w : (IntKind.i64.wrap ((wrap64 (4 * x6_1)) + x7_2)) = ji11 := (i64_w _).trans hji11
                    by_cases c12 : 0 ≤ (ji11)
                    · rw [if_pos c12] at H
                      have c12b0 : decide (0 ≤ (ji11)) = true := decide_eq_true c12
                      clear c12
                      by_cases c13 : (ji11) < (x5_2.length : Int)
                      · rw [if_pos c13] at H
                        have c13b0 : decide ((ji11) < (x5_2.length : Int)) = true := decide_eq_true c13
                        clear c13
                        obtain ⟨y391, hy391⟩ : ∃ y_ : List Int, y_ = (x5_2.set ((ji11) : Int).toNat (rd l0 (ji8))) := ⟨_, rfl⟩
                        replace H : (spec_l1Shift.l1 k2 l0 a1 y391 x6_1 (wrap64 (x7_2 + 1))) = some r := by first | (rw [hy391]; with_reducible exact H) | (have H2_ := (Option.bind_some _ _).symm.trans H; rw [hy391]; with_reducible exact H2_) | (have H2_ := (Option.bind_some _ _).symm.trans H; with_reducible exact H2_) | with_reducible exact H | (rw [hy391]; exact H) | exact H
                        have Ny391 := Aside0.mk hy391
                        clear hy391
                        have H' := Aside0.mk H
                        clear H
                        have p390 : 0 ≤ ((ji8) : Int) := of_decide_eq_true (by first | (with_reducible assumption) | assumption)
                        have q390 : (ji8) < (l0.length : Int) := of_decide_eq_true (by first | (with_reducible assumption) | assumption)
                        obtain ⟨ad390, e390, hx390_0⟩ := Kd.at_int HR0.out (ji8) p390 q390
                        cases e390
                        replace hx390_0 := (HB.out.cell (World.block_lt_of_cell? w _ hx390_0)).trans hx390_0
                        replace p390 := eq_true p390
                        replace q390 := eq_true q390
                        have p14 : 0 ≤ ((ji11) : Int) := of_decide_eq_true (by first | (with_reducible assumption) | assumption)
                        have q14 : ((ji11) : Int) < ((x5_2.length : Int) : Int) := of_decide_eq_true (by first | (with_reducible assumption) | assumption)
                        obtain ⟨go14, co14, eo14, gb14, gl14, cl14, HG14⟩ := Kd.R_form HO_5.out (by omega)
                        (first | cases eo14 | (injection eo14 with ea_ en_ ec_; (first | subst ea_ | (injection ea_ with ea_; subst ea_)); subst ec_; clear en_))
                        have GB14 := Aside0.mk gb14
                        have GG14 := Aside0.mk HG14
                        clear gb14 gl14 HG14
                        obtain ⟨hx14_0, hf14_0⟩ := Kd.R_celln 0 HO_5.out ((ji11) : Int) p14 q14
                        replace p14 := eq_true p14
                        replace q14 := eq_true q14
                        have HP15 := Kd.R_putg HO_5.out ((ji11) : Int) (rd l0 (ji8))
                        go_wp2_with (first | ((with_reducible refine gate_store (t := 5) (p := 34) rfl ?_); refine store_event (t := 5) (p := 34) (v := ?vo_w16) (w1 := (wr.setCell ⟨go14, ((ji11) : Int).toNat, none⟩ (.int .u8 (rd l0 (ji8))))) ?hg ?ho ?hn ?hr ?_; (case ho => rfl); (case hg => rfl); (case hn => rfl); (case hr => first | (go_simp; done) | (go_simp; rfl)); intro w16 hw; have hg : wr.grownBy w16 (some go14) := (by rw [hw]; exact HP15.2); have hp_ : Kd.R (Kd.int .u8) 5 w16 w.heap.size (fun _ => True) (.slice (some ⟨go14, 0, none⟩) x5_2.length co14) y391 := (by rw [hw, Ny391.out]; exact HP15.1); clear HP15; have n0_ := Aside0.mk (hp_); have n1_ := Aside0.mk ((by rw [hw]; exact below_set (HB.out) GB14.out : Below w.heap.size w w16)); clear HO_5; clear HB; have HO_5 := n0_; have HB := n1_; clear n0_ n1_; clear hg hw hp_))
                        go_roundg k2
                        case measure => have := HK1.out; have := HK2.out; omega
                        case rel => exact ⟨(y391), (wrap64 (x7_2 + 1)), (by first | rfl | (simp; done) | (simp [*]; done)), H', ⟨by have := HK1.out; have := HK2.out; omega⟩, ⟨by (with_reducible repeat (first | apply Kd.R_alloc | apply Kd.R_drewN | apply Kd.R_drew)); exact HO_5.out⟩, ⟨by repeat (first | (with_reducible first | exact HB.out | apply below_alloc | apply pw_below_drewN | apply below_drew1) | exact HB.out)⟩⟩
                      · rw [if_neg c13] at H
                        exact absurd H (by simp)
                    · rw [if_neg c12] at H
                      exact absurd H (by simp)
                  · rw [if_neg c10] at H
                    exact absurd H (by simp)
                · rw [if_neg c9] at H
                  exact absurd H (by simp)
              · rw [if_neg c7] at H
                have c7b0 : decide (x7_2 < 4) = false := decide_eq_false c7
                clear c7
                have H' := Aside0.mk H
                clear H
                go_wp2
                go_roundg k2
                case measure => have := HK1.out; have := HK2.out; omega
                case rel => exact ⟨(x5_2), (wrap64 (x6_1 + 1)), (by first | rfl | (simp; done) | (simp [*]; done)), H', ⟨by have := HK1.out; have := HK2.out; omega⟩, ⟨by (with_reducible repeat (first | apply Kd.R_alloc | apply Kd.R_drewN | apply Kd.R_drew)); exact HO_5.out⟩, ⟨by repeat (first | (with_reducible first | exact HB.out | apply below_alloc | apply pw_below_drewN | apply below_drew1) | exact HB.out)⟩⟩
        · rw [if_neg c6] at H
          have c6b0 : decide (x6_1 < 4) = false := decide_eq_false c6
          clear c6
          obtain rfl := Option.some.inj H
          go_wp2
          go_ret
          exact ⟨_, by first | rfl | (simp [errW_none, errW_some] <;> rfl) | (simp [*, errW_none, errW_some] <;> rfl), by (with_reducible repeat (first | apply Kd.R_alloc | apply Kd.R_drewN | apply Kd.R_drew)); exact HO_5.out, by repeat (first | (with_reducible first | exact HB.out | apply below_alloc | apply pw_below_drewN | apply below_drew1) | exact HB.out)⟩
  · rw [if_neg c3] at H
    exact absurd H (by simp)

end Go.Proofs.Ytiejallnkgllnaa.LQ
