-- Written by a program of this session (a scratch copy of the print with functions taken as proved): Lean checks it.
import Derived.Test.YtbjlpdfhjapbkaaDoorPTW
namespace Go.Proofs.YtbjlpdfhjapbkaaDoor.P
open Go.RowKit Go.Proofs.YtbjlpdfhjapbkaaDoorW.PrintWords Go.Proofs.YtbjlpdfhjapbkaaDoorW.PrintLast Go.Proofs.YtbjlpdfhjapbkaaDoorW.PrintMore
attribute [local go_sem] max2_int min2_int max_two min_two max_three min_three max_four min_four   -- for this text's walks alone
set_option linter.unusedVariables false
set_option linter.unusedSimpArgs false




/-! ### spec_l3Count: function 50 -/
def spec_l3Count.f (l0 : List Int) : Option (Int × List Int) := if 7 < (l0.length : Int) then (if 8 < (l0.length : Int) then (if 9 < (l0.length : Int) then ((spec_l1Bytes.f l0).bind fun t312 => (if 7 < (t312.length : Int) then (if 8 < (t312.length : Int) then (if 9 < (t312.length : Int) then (some (Go.bits .or .i64 (Go.bits .or .i64 (wrap64 ((wrap64 (Go.bits .and .u8 (rd l0 7) 31)) * 65536)) (wrap64 ((wrap64 (rd l0 8)) * 256))) (wrap64 (rd l0 9)), (((t312.set (7 : Int).toNat (Go.bits .and .u8 (rd t312 7) 224)).set (8 : Int).toNat 0).set (9 : Int).toNat 0))) else (none)) else (none)) else (none))) else (none)) else (none)) else (none)
set_option maxHeartbeats 8000000 in
set_option maxRecDepth 100000 in
theorem spec_l3Count.calls (A0 : Option Addr) (c0 : Nat) (l0 : List Int) (r1 : Int) (r2 : List Int) (w : World) (hr0 : Kd.C (Kd.int .u8) w A0 l0.length l0) (hc0 : l0.length ≤ c0) (h : spec_l3Count.f l0 = some (r1, r2)) :
    Calls Tryd.prog 50 #[.slice A0 l0.length c0] w fun e w' => ∃ v1_ : Value, e = .returned (.tuple #[.int .i64 r1, v1_]) ∧ Kd.R (Kd.int .u8) 5 w' w.heap.size (fun _ => True) v1_ r2 ∧ Below w.heap.size w w' := by
  have HR0 := Aside0.mk hr0
  have HC0 := Aside0.mk hc0
  clear hr0 hc0
  have HB := Aside0.mk (Below.refl w.heap.size w)
  have H : (if 7 < (l0.length : Int) then (if 8 < (l0.length : Int) then (if 9 < (l0.length : Int) then ((spec_l1Bytes.f l0).bind fun t312 => (if 7 < (t312.length : Int) then (if 8 < (t312.length : Int) then (if 9 < (t312.length : Int) then (some (Go.bits .or .i64 (Go.bits .or .i64 (wrap64 ((wrap64 (Go.bits .and .u8 (rd l0 7) 31)) * 65536)) (wrap64 ((wrap64 (rd l0 8)) * 256))) (wrap64 (rd l0 9)), (((t312.set (7 : Int).toNat (Go.bits .and .u8 (rd t312 7) 224)).set (8 : Int).toNat 0).set (9 : Int).toNat 0))) else (none)) else (none)) else (none))) else (none)) else (none)) else (none)) = some (r1, r2) := h
  clear h
  by_cases c2 : 7 < (l0.length : Int)
  · rw [if_pos c2] at H
    have c2b0 : decide (7 < (l0.length : Int)) = true := decide_eq_true c2
    have c2b1 : decide (7 < l0.length) = true := decide_eq_true (by omega)
    clear c2
    by_cases c3 : 8 < (l0.length : Int)
    · rw [if_pos c3] at H
      have c3b0 : decide (8 < (l0.length : Int)) = true := decide_eq_true c3
      have c3b1 : decide (8 < l0.length) = true := decide_eq_true (by omega)
      clear c3
      by_cases c4 : 9 < (l0.length : Int)
      · rw [if_pos c4] at H
        have c4b0 : decide (9 < (l0.length : Int)) = true := decide_eq_true c4
        have c4b1 : decide (9 < l0.length) = true := decide_eq_true (by omega)
        clear c4
        replace H := Option.bind_eq_some_iff.mp H
        obtain ⟨t312, A50, H⟩ := H
        replace H : (if 7 < (t312.length : Int) then (if 8 < (t312.length : Int) then (if 9 < (t312.length : Int) then (some (Go.bits .or .i64 (Go.bits .or .i64 (wrap64 ((wrap64 (Go.bits .and .u8 (rd l0 7) 31)) * 65536)) (wrap64 ((wrap64 (rd l0 8)) * 256))) (wrap64 (rd l0 9)), (((t312.set (7 : Int).toNat (Go.bits .and .u8 (rd t312 7) 224)).set (8 : Int).toNat 0).set (9 : Int).toNat 0))) else (none)) else (none)) else (none)) = some (r1, r2) := H
        have A5 := Aside0.mk A50
        clear A50
        by_cases c6 : 7 < (t312.length : Int)
        · rw [if_pos c6] at H
          have c6b0 : decide (7 < (t312.length : Int)) = true := decide_eq_true c6
          have c6b1 : decide (7 < t312.length) = true := decide_eq_true (by omega)
          clear c6
          obtain ⟨y316, hy316⟩ : ∃ y_ : List Int, y_ = (t312.set (7 : Int).toNat (Go.bits .and .u8 (rd t312 7) 224)) := ⟨_, rfl⟩
          replace H : (if 8 < (t312.length : Int) then (if 9 < (t312.length : Int) then (some (Go.bits .or .i64 (Go.bits .or .i64 (wrap64 ((wrap64 (Go.bits .and .u8 (rd l0 7) 31)) * 65536)) (wrap64 ((wrap64 (rd l0 8)) * 256))) (wrap64 (rd l0 9)), ((y316.set (8 : Int).toNat 0).set (9 : Int).toNat 0))) else (none)) else (none)) = some (r1, r2) := by first | (rw [hy316]; with_reducible exact H) | (have H2_ := (Option.bind_some _ _).symm.trans H; rw [hy316]; with_reducible exact H2_) | (have H2_ := (Option.bind_some _ _).symm.trans H; with_reducible exact H2_) | with_reducible exact H | (rw [hy316]; exact H) | exact H
          have Ny316 := Aside0.mk hy316
          clear hy316
          by_cases c8 : 8 < (t312.length : Int)
          · rw [if_pos c8] at H
            have c8b0 : decide (8 < (t312.length : Int)) = true := decide_eq_true c8
            have c8b1 : decide (8 < t312.length) = true := decide_eq_true (by omega)
            clear c8
            obtain ⟨y317, hy317⟩ : ∃ y_ : List Int, y_ = (y316.set (8 : Int).toNat 0) := ⟨_, rfl⟩
            replace H : (if 9 < (t312.length : Int) then (some (Go.bits .or .i64 (Go.bits .or .i64 (wrap64 ((wrap64 (Go.bits .and .u8 (rd l0 7) 31)) * 65536)) (wrap64 ((wrap64 (rd l0 8)) * 256))) (wrap64 (rd l0 9)), (y317.set (9 : Int).toNat 0))) else (none)) = some (r1, r2) := by first | (rw [hy317]; with_reducible exact H) | (have H2_ := (Option.bind_some _ _).symm.trans H; rw [hy317]; with_reducible exact H2_) | (have H2_ := (Option.bind_some _ _).symm.trans H; with_reducible exact H2_) | with_reducible exact H | (rw [hy317]; exact H) | exact H
            have Ny317 := Aside0.mk hy317
            clear hy317
            by_cases c10 : 9 < (t312.length : Int)
            · rw [if_pos c10] at H
              have c10b0 : decide (9 < (t312.length : Int)) = true := decide_eq_true c10
              have c10b1 : decide (9 < t312.length) = true := decide_eq_true (by omega)
              clear c10
              obtain ⟨y318, hy318⟩ : ∃ y_ : List Int, y_ = (y317.set (9 : Int).toNat 0) := ⟨_, rfl⟩
              replace H : (some (Go.bits .or .i64 (Go.bits .or .i64 (wrap64 ((wrap64 (Go.bits .and .u8 (rd l0 7) 31)) * 65536)) (wrap64 ((wrap64 (rd l0 8)) * 256))) (wrap64 (rd l0 9)), y318)) = some (r1, r2) := by first | (rw [hy318]; with_reducible exact H) | (have H2_ := (Option.bind_some _ _).symm.trans H; rw [hy318]; with_reducible exact H2_) | (have H2_ := (Option.bind_some _ _).symm.trans H; with_reducible exact H2_) | with_reducible exact H | (rw [hy318]; exact H) | exact H
              have Ny318 := Aside0.mk hy318
              clear hy318
              simp only [Option.some.injEq, Prod.mk.injEq] at H
              obtain ⟨rfl, rfl⟩ := H
              have p309 : 0 ≤ (7 : Int) := (by omega)
              have q309 : 7 < (l0.length : Int) := of_decide_eq_true (by first | (with_reducible assumption) | assumption)
              obtain ⟨ad309, e309, hx309_0⟩ := Kd.at_int HR0.out 7 p309 q309
              cases e309
              (try simp only [show (7 : Int).toNat = 7 from rfl, Nat.reduceMul, Nat.reduceEqDiff, Go.Addr.add, ↓reduceIte] at hx309_0)
              have qi309 : (7 < l0.length) = True := eq_true (by omega)
              (try rw [show ((7 : Int)).toNat = 7 from rfl] at hx309_0)
              replace p309 := eq_true p309
              replace q309 := eq_true q309
              have p310 : 0 ≤ (8 : Int) := (by omega)
              have q310 : 8 < (l0.length : Int) := of_decide_eq_true (by first | (with_reducible assumption) | assumption)
              obtain ⟨ad310, e310, hx310_0⟩ := Kd.at_int HR0.out 8 p310 q310
              obtain rfl : ad309 = ad310 := (by injection e310)
              (try simp only [show (8 : Int).toNat = 8 from rfl, Nat.reduceMul, Nat.reduceEqDiff, Go.Addr.add, ↓reduceIte] at hx310_0)
              have qi310 : (8 < l0.length) = True := eq_true (by omega)
              (try rw [show ((8 : Int)).toNat = 8 from rfl] at hx310_0)
              replace p310 := eq_true p310
              replace q310 := eq_true q310
              have p311 : 0 ≤ (9 : Int) := (by omega)
              have q311 : 9 < (l0.length : Int) := of_decide_eq_true (by first | (with_reducible assumption) | assumption)
              obtain ⟨ad311, e311, hx311_0⟩ := Kd.at_int HR0.out 9 p311 q311
              obtain rfl : ad309 = ad311 := (by injection e311)
              (try simp only [show (9 : Int).toNat = 9 from rfl, Nat.reduceMul, Nat.reduceEqDiff, Go.Addr.add, ↓reduceIte] at hx311_0)
              have qi311 : (9 < l0.length) = True := eq_true (by omega)
              (try rw [show ((9 : Int)).toNat = 9 from rfl] at hx311_0)
              replace p311 := eq_true p311
              replace q311 := eq_true q311
              go_enter Tryd.func50, Tryd.ntmps50
              go_wp2_with (first | (go_at_call 47; (with_reducible refine (spec_l1Bytes.calls _ _ l0 t312 _ ?side1 ?side2 A5.out).mono ?_); (case side1 => repeat (first | exact HR0.out | (with_reducible refine Kd.C_alloc ?_ _) | (with_reducible refine Kd.C_drewN ?_ _) | (with_reducible refine Kd.C_drew ?_))); (case side2 => exact HC0.out); rintro e w12 ⟨v313, rfl, ho0, hb⟩; have n0_ := Aside0.mk (Kd.R_lower ho0 (below_size (by repeat (first | (with_reducible first | exact HB.out | apply below_alloc | apply pw_below_drewN | apply below_drew1) | exact HB.out)))); have n1_ := Aside0.mk (below_step (by repeat (first | (with_reducible first | exact HB.out | apply below_alloc | apply pw_below_drewN | apply below_drew1) | exact HB.out)) hb); clear HB; have HO314 := n0_; have HB := n1_; clear n0_ n1_; (try clear hb); (try clear hb2); (try clear hk); (try clear hi); (try clear ho0); obtain ⟨Ao13, co13, eo13⟩ := Kd.R_slice HO314.out; subst eo13; have p315 : 0 ≤ (7 : Int) := (by omega); have q315 : 7 < (t312.length : Int) := of_decide_eq_true (by first | (with_reducible assumption) | assumption); obtain ⟨ad315, e315, hx315_0⟩ := Kd.at_int (Kd.R_reads' HO314.out).2.2 7 p315 q315; cases e315; (try simp only [show (7 : Int).toNat = 7 from rfl, Nat.reduceMul, Nat.reduceEqDiff, Go.Addr.add, ↓reduceIte] at hx315_0); have qi315 : (7 < t312.length) = True := eq_true (by omega); (try rw [show ((7 : Int)).toNat = 7 from rfl] at hx315_0); replace p315 := eq_true p315; replace q315 := eq_true q315; have p7 : 0 ≤ (7 : Int) := (by omega); have q7 : (7 : Int) < ((t312.length : Int) : Int) := of_decide_eq_true (by first | (with_reducible assumption) | assumption); have qi7 : (7 < t312.length) = True := eq_true (by omega); obtain ⟨go7, co7, eo7, gb7, gl7, cl7, HG7⟩ := Kd.R_form HO314.out (by omega); (first | cases eo7 | (injection eo7 with ea_ en_ ec_; (first | subst ea_ | (injection ea_ with ea_; subst ea_)); subst ec_; clear en_)); have GB7 := Aside0.mk gb7; have GG7 := Aside0.mk HG7; clear gb7 gl7 HG7; (first | simp only [add_plain] at hx315_0 | skip); obtain ⟨hx7_0, hf7_0⟩ := Kd.R_celln 0 HO314.out (7 : Int) p7 q7; (try rw [show ((7 : Int)).toNat = 7 from rfl] at hx7_0); (try simp only [Nat.reduceMul, Nat.zero_mul, Nat.zero_add, Nat.reduceAdd] at hx7_0); (try rw [show ((7 : Int)).toNat = 7 from rfl] at hf7_0); (try simp only [Nat.reduceMul, Nat.zero_mul, Nat.zero_add, Nat.reduceAdd] at hf7_0); replace p7 := eq_true p7; replace q7 := eq_true q7; obtain ⟨hy14_, hz14_⟩ := Kd.R_celln 0 HO314.out (7 : Int) (by omega) (of_decide_eq_true (by first | (with_reducible assumption) | assumption)); (try simp only [Int.reduceToNat, Int.toNat_zero, Int.toNat_ofNat, Nat.reduceMul, Nat.zero_mul, Nat.zero_add] at hy14_ hz14_); (try rw [show ((7 : Int)).toNat = 7 from rfl] at hy14_); (try rw [show ((7 : Int)).toNat = 7 from rfl] at hz14_); have HP14 := Kd.R_putg HO314.out (7 : Int) (Go.bits .and .u8 (rd t312 7) 224)) | ((with_reducible refine gate_store (t := 5) (p := 29) rfl ?_); (try (rw [drewN_self w12]; generalize hq_ : World.drewN w12 _ = w12; have n0_ := Aside0.mk (Kd.R_at hq_ HO314.out); have n1_ := Aside0.mk (below_at hq_ HB.out); clear hq_ HO314 HB; have HO314 := n0_; have HB := n1_; clear n0_ n1_; (try (obtain ⟨hy14_, hz14_⟩ := Kd.R_celln 0 HO314.out (7 : Int) (by omega) (of_decide_eq_true (by first | (with_reducible assumption) | assumption)))); (try (try simp only [Int.reduceToNat, Int.toNat_zero, Int.toNat_ofNat, Nat.reduceMul, Nat.zero_mul, Nat.zero_add] at hy14_ hz14_)); (try (try rw [show ((7 : Int)).toNat = 7 from rfl] at hy14_)); (try (try rw [show ((7 : Int)).toNat = 7 from rfl] at hz14_)); (try (have HP14 := Kd.R_putg HO314.out (7 : Int) (Go.bits .and .u8 (rd t312 7) 224))))); refine store_event (t := 5) (p := 29) (v := ?vo_w15) (w1 := (w12.setCell ⟨go7, (7 : Int).toNat, none⟩ (.int .u8 (Go.bits .and .u8 (rd t312 7) 224)))) ?hg ?ho ?hn ?hr ?_; (case ho => rfl); (case hg => rfl); (case hn => rfl); (case hr => first | (go_simp; done) | (go_simp; rfl)); intro w15 hw; have hg : w12.grownBy w15 (some go7) := (by rw [hw]; exact HP14.2); have hp_ : Kd.R (Kd.int .u8) 5 w15 w.heap.size (fun _ => True) (.slice (some ⟨go7, 0, none⟩) t312.length co13) y316 := (by rw [hw, Ny316.out]; exact HP14.1); clear HP14; have n0_ := Aside0.mk (hp_); have n1_ := Aside0.mk ((by rw [hw]; exact below_set (HB.out) GB7.out : Below w.heap.size w w15)); clear HO314; clear HB; have HO314 := n0_; have HB := n1_; clear n0_ n1_; clear hg hw hp_; have p9 : 0 ≤ (8 : Int) := (by omega); have q9 : (8 : Int) < ((t312.length : Int) : Int) := of_decide_eq_true (by first | (with_reducible assumption) | assumption); have qi9 : (8 < t312.length) = True := eq_true (by omega); obtain ⟨hx9_0, hf9_0⟩ := Kd.R_celln 0 HO314.out (8 : Int) p9 q9; (try rw [show ((8 : Int)).toNat = 8 from rfl] at hx9_0); (try simp only [Nat.reduceMul, Nat.zero_mul, Nat.zero_add, Nat.reduceAdd] at hx9_0); (try rw [show ((8 : Int)).toNat = 8 from rfl] at hf9_0); (try simp only [Nat.reduceMul, Nat.zero_mul, Nat.zero_add, Nat.reduceAdd] at hf9_0); replace p9 := eq_true p9; replace q9 := eq_true q9; obtain ⟨hy16_, hz16_⟩ := Kd.R_celln 0 HO314.out (8 : Int) (by omega) (of_decide_eq_true (by first | (with_reducible assumption) | assumption)); (try simp only [Int.reduceToNat, Int.toNat_zero, Int.toNat_ofNat, Nat.reduceMul, Nat.zero_mul, Nat.zero_add] at hy16_ hz16_); (try rw [show ((8 : Int)).toNat = 8 from rfl] at hy16_); (try rw [show ((8 : Int)).toNat = 8 from rfl] at hz16_); have HP16 := Kd.R_putg HO314.out (8 : Int) 0) | ((with_reducible refine gate_store (t := 5) (p := 31) rfl ?_); (try (rw [drewN_self w15]; generalize hq_ : World.drewN w15 _ = w15; have n0_ := Aside0.mk (Kd.R_at hq_ HO314.out); have n1_ := Aside0.mk (below_at hq_ HB.out); clear hq_ HO314 HB; have HO314 := n0_; have HB := n1_; clear n0_ n1_; (try (obtain ⟨hy16_, hz16_⟩ := Kd.R_celln 0 HO314.out (8 : Int) (by omega) (of_decide_eq_true (by first | (with_reducible assumption) | assumption)))); (try (try simp only [Int.reduceToNat, Int.toNat_zero, Int.toNat_ofNat, Nat.reduceMul, Nat.zero_mul, Nat.zero_add] at hy16_ hz16_)); (try (try rw [show ((8 : Int)).toNat = 8 from rfl] at hy16_)); (try (try rw [show ((8 : Int)).toNat = 8 from rfl] at hz16_)); (try (have HP16 := Kd.R_putg HO314.out (8 : Int) 0)))); refine store_event (t := 5) (p := 31) (v := ?vo_w17) (w1 := (w15.setCell ⟨go7, (8 : Int).toNat, none⟩ (.int .u8 0))) ?hg ?ho ?hn ?hr ?_; (case ho => rfl); (case hg => rfl); (case hn => rfl); (case hr => first | (go_simp; done) | (go_simp; rfl)); intro w17 hw; have hg : w15.grownBy w17 (some go7) := (by rw [hw]; exact HP16.2); have hp_ : Kd.R (Kd.int .u8) 5 w17 w.heap.size (fun _ => True) (.slice (some ⟨go7, 0, none⟩) t312.length co13) y317 := (by rw [hw, Ny317.out]; exact HP16.1); clear HP16; have n0_ := Aside0.mk (hp_); have n1_ := Aside0.mk ((by rw [hw]; exact below_set (HB.out) GB7.out : Below w.heap.size w w17)); clear HO314; clear HB; have HO314 := n0_; have HB := n1_; clear n0_ n1_; clear hg hw hp_; have p11 : 0 ≤ (9 : Int) := (by omega); have q11 : (9 : Int) < ((t312.length : Int) : Int) := of_decide_eq_true (by first | (with_reducible assumption) | assumption); have qi11 : (9 < t312.length) = True := eq_true (by omega); obtain ⟨hx11_0, hf11_0⟩ := Kd.R_celln 0 HO314.out (9 : Int) p11 q11; (try rw [show ((9 : Int)).toNat = 9 from rfl] at hx11_0); (try simp only [Nat.reduceMul, Nat.zero_mul, Nat.zero_add, Nat.reduceAdd] at hx11_0); (try rw [show ((9 : Int)).toNat = 9 from rfl] at hf11_0); (try simp only [Nat.reduceMul, Nat.zero_mul, Nat.zero_add, Nat.reduceAdd] at hf11_0); replace p11 := eq_true p11; replace q11 := eq_true q11; obtain ⟨hy18_, hz18_⟩ := Kd.R_celln 0 HO314.out (9 : Int) (by omega) (of_decide_eq_true (by first | (with_reducible assumption) | assumption)); (try simp only [Int.reduceToNat, Int.toNat_zero, Int.toNat_ofNat, Nat.reduceMul, Nat.zero_mul, Nat.zero_add] at hy18_ hz18_); (try rw [show ((9 : Int)).toNat = 9 from rfl] at hy18_); (try rw [show ((9 : Int)).toNat = 9 from rfl] at hz18_); have HP18 := Kd.R_putg HO314.out (9 : Int) 0) | ((with_reducible refine gate_store (t := 5) (p := 33) rfl ?_); (try (rw [drewN_self w17]; generalize hq_ : World.drewN w17 _ = w17; have n0_ := Aside0.mk (Kd.R_at hq_ HO314.out); have n1_ := Aside0.mk (below_at hq_ HB.out); clear hq_ HO314 HB; have HO314 := n0_; have HB := n1_; clear n0_ n1_; (try (obtain ⟨hy18_, hz18_⟩ := Kd.R_celln 0 HO314.out (9 : Int) (by omega) (of_decide_eq_true (by first | (with_reducible assumption) | assumption)))); (try (try simp only [Int.reduceToNat, Int.toNat_zero, Int.toNat_ofNat, Nat.reduceMul, Nat.zero_mul, Nat.zero_add] at hy18_ hz18_)); (try (try rw [show ((9 : Int)).toNat = 9 from rfl] at hy18_)); (try (try rw [show ((9 : Int)).toNat = 9 from rfl] at hz18_)); (try (have HP18 := Kd.R_putg HO314.out (9 : Int) 0)))); refine store_event (t := 5) (p := 33) (v := ?vo_w19) (w1 := (w17.setCell ⟨go7, (9 : Int).toNat, none⟩ (.int .u8 0))) ?hg ?ho ?hn ?hr ?_; (case ho => rfl); (case hg => rfl); (case hn => rfl); (case hr => first | (go_simp; done) | (go_simp; rfl)); intro w19 hw; have hg : w17.grownBy w19 (some go7) := (by rw [hw]; exact HP18.2); have hp_ : Kd.R (Kd.int .u8) 5 w19 w.heap.size (fun _ => True) (.slice (some ⟨go7, 0, none⟩) t312.length co13) y318 := (by rw [hw, Ny318.out]; exact HP18.1); clear HP18; have n0_ := Aside0.mk (hp_); have n1_ := Aside0.mk ((by rw [hw]; exact below_set (HB.out) GB7.out : Below w.heap.size w w19)); clear HO314; clear HB; have HO314 := n0_; have HB := n1_; clear n0_ n1_; clear hg hw hp_))
              repeat (go_quiet (first | (go_at_call 47; (with_reducible refine (spec_l1Bytes.calls _ _ l0 t312 _ ?side1 ?side2 A5.out).mono ?_); (case side1 => repeat (first | exact HR0.out | (with_reducible refine Kd.C_alloc ?_ _) | (with_reducible refine Kd.C_drewN ?_ _) | (with_reducible refine Kd.C_drew ?_))); (case side2 => exact HC0.out); rintro e w12 ⟨v313, rfl, ho0, hb⟩; have n0_ := Aside0.mk (Kd.R_lower ho0 (below_size (by repeat (first | (with_reducible first | exact HB.out | apply below_alloc | apply pw_below_drewN | apply below_drew1) | exact HB.out)))); have n1_ := Aside0.mk (below_step (by repeat (first | (with_reducible first | exact HB.out | apply below_alloc | apply pw_below_drewN | apply below_drew1) | exact HB.out)) hb); clear HB; have HO314 := n0_; have HB := n1_; clear n0_ n1_; (try clear hb); (try clear hb2); (try clear hk); (try clear hi); (try clear ho0); obtain ⟨Ao13, co13, eo13⟩ := Kd.R_slice HO314.out; subst eo13; have p315 : 0 ≤ (7 : Int) := (by omega); have q315 : 7 < (t312.length : Int) := of_decide_eq_true (by first | (with_reducible assumption) | assumption); obtain ⟨ad315, e315, hx315_0⟩ := Kd.at_int (Kd.R_reads' HO314.out).2.2 7 p315 q315; cases e315; (try simp only [show (7 : Int).toNat = 7 from rfl, Nat.reduceMul, Nat.reduceEqDiff, Go.Addr.add, ↓reduceIte] at hx315_0); have qi315 : (7 < t312.length) = True := eq_true (by omega); (try rw [show ((7 : Int)).toNat = 7 from rfl] at hx315_0); replace p315 := eq_true p315; replace q315 := eq_true q315; have p7 : 0 ≤ (7 : Int) := (by omega); have q7 : (7 : Int) < ((t312.length : Int) : Int) := of_decide_eq_true (by first | (with_reducible assumption) | assumption); have qi7 : (7 < t312.length) = True := eq_true (by omega); obtain ⟨go7, co7, eo7, gb7, gl7, cl7, HG7⟩ := Kd.R_form HO314.out (by omega); (first | cases eo7 | (injection eo7 with ea_ en_ ec_; (first | subst ea_ | (injection ea_ with ea_; subst ea_)); subst ec_; clear en_)); have GB7 := Aside0.mk gb7; have GG7 := Aside0.mk HG7; clear gb7 gl7 HG7; (first | simp only [add_plain] at hx315_0 | skip); obtain ⟨hx7_0, hf7_0⟩ := Kd.R_celln 0 HO314.out (7 : Int) p7 q7; (try rw [show ((7 : Int)).toNat = 7 from rfl] at hx7_0); (try simp only [Nat.reduceMul, Nat.zero_mul, Nat.zero_add, Nat.reduceAdd] at hx7_0); (try rw [show ((7 : Int)).toNat = 7 from rfl] at hf7_0); (try simp only [Nat.reduceMul, Nat.zero_mul, Nat.zero_add, Nat.reduceAdd] at hf7_0); replace p7 := eq_true p7; replace q7 := eq_true q7; obtain ⟨hy14_, hz14_⟩ := Kd.R_celln 0 HO314.out (7 : Int) (by omega) (of_decide_eq_true (by first | (with_reducible assumption) | assumption)); (try simp only [Int.reduceToNat, Int.toNat_zero, Int.toNat_ofNat, Nat.reduceMul, Nat.zero_mul, Nat.zero_add] at hy14_ hz14_); (try rw [show ((7 : Int)).toNat = 7 from rfl] at hy14_); (try rw [show ((7 : Int)).toNat = 7 from rfl] at hz14_); have HP14 := Kd.R_putg HO314.out (7 : Int) (Go.bits .and .u8 (rd t312 7) 224)) | ((with_reducible refine gate_store (t := 5) (p := 29) rfl ?_); (try (rw [drewN_self w12]; generalize hq_ : World.drewN w12 _ = w12; have n0_ := Aside0.mk (Kd.R_at hq_ HO314.out); have n1_ := Aside0.mk (below_at hq_ HB.out); clear hq_ HO314 HB; have HO314 := n0_; have HB := n1_; clear n0_ n1_; (try (obtain ⟨hy14_, hz14_⟩ := Kd.R_celln 0 HO314.out (7 : Int) (by omega) (of_decide_eq_true (by first | (with_reducible assumption) | assumption)))); (try (try simp only [Int.reduceToNat, Int.toNat_zero, Int.toNat_ofNat, Nat.reduceMul, Nat.zero_mul, Nat.zero_add] at hy14_ hz14_)); (try (try rw [show ((7 : Int)).toNat = 7 from rfl] at hy14_)); (try (try rw [show ((7 : Int)).toNat = 7 from rfl] at hz14_)); (try (have HP14 := Kd.R_putg HO314.out (7 : Int) (Go.bits .and .u8 (rd t312 7) 224))))); refine store_event (t := 5) (p := 29) (v := ?vo_w15) (w1 := (w12.setCell ⟨go7, (7 : Int).toNat, none⟩ (.int .u8 (Go.bits .and .u8 (rd t312 7) 224)))) ?hg ?ho ?hn ?hr ?_; (case ho => rfl); (case hg => rfl); (case hn => rfl); (case hr => first | (go_simp; done) | (go_simp; rfl)); intro w15 hw; have hg : w12.grownBy w15 (some go7) := (by rw [hw]; exact HP14.2); have hp_ : Kd.R (Kd.int .u8) 5 w15 w.heap.size (fun _ => True) (.slice (some ⟨go7, 0, none⟩) t312.length co13) y316 := (by rw [hw, Ny316.out]; exact HP14.1); clear HP14; have n0_ := Aside0.mk (hp_); have n1_ := Aside0.mk ((by rw [hw]; exact below_set (HB.out) GB7.out : Below w.heap.size w w15)); clear HO314; clear HB; have HO314 := n0_; have HB := n1_; clear n0_ n1_; clear hg hw hp_; have p9 : 0 ≤ (8 : Int) := (by omega); have q9 : (8 : Int) < ((t312.length : Int) : Int) := of_decide_eq_true (by first | (with_reducible assumption) | assumption); have qi9 : (8 < t312.length) = True := eq_true (by omega); obtain ⟨hx9_0, hf9_0⟩ := Kd.R_celln 0 HO314.out (8 : Int) p9 q9; (try rw [show ((8 : Int)).toNat = 8 from rfl] at hx9_0); (try simp only [Nat.reduceMul, Nat.zero_mul, Nat.zero_add, Nat.reduceAdd] at hx9_0); (try rw [show ((8 : Int)).toNat = 8 from rfl] at hf9_0); (try simp only [Nat.reduceMul, Nat.zero_mul, Nat.zero_add, Nat.reduceAdd] at hf9_0); replace p9 := eq_true p9; replace q9 := eq_true q9; obtain ⟨hy16_, hz16_⟩ := Kd.R_celln 0 HO314.out (8 : Int) (by omega) (of_decide_eq_true (by first | (with_reducible assumption) | assumption)); (try simp only [Int.reduceToNat, Int.toNat_zero, Int.toNat_ofNat, Nat.reduceMul, Nat.zero_mul, Nat.zero_add] at hy16_ hz16_); (try rw [show ((8 : Int)).toNat = 8 from rfl] at hy16_); (try rw [show ((8 : Int)).toNat = 8 from rfl] at hz16_); have HP16 := Kd.R_putg HO314.out (8 : Int) 0) | ((with_reducible refine gate_store (t := 5) (p := 31) rfl ?_); (try (rw [drewN_self w15]; generalize hq_ : World.drewN w15 _ = w15; have n0_ := Aside0.mk (Kd.R_at hq_ HO314.out); have n1_ := Aside0.mk (below_at hq_ HB.out); clear hq_ HO314 HB; have HO314 := n0_; have HB := n1_; clear n0_ n1_; (try (obtain ⟨hy16_, hz16_⟩ := Kd.R_celln 0 HO314.out (8 : Int) (by omega) (of_decide_eq_true (by first | (with_reducible assumption) | assumption)))); (try (try simp only [Int.reduceToNat, Int.toNat_zero, Int.toNat_ofNat, Nat.reduceMul, Nat.zero_mul, Nat.zero_add] at hy16_ hz16_)); (try (try rw [show ((8 : Int)).toNat = 8 from rfl] at hy16_)); (try (try rw [show ((8 : Int)).toNat = 8 from rfl] at hz16_)); (try (have HP16 := Kd.R_putg HO314.out (8 : Int) 0)))); refine store_event (t := 5) (p := 31) (v := ?vo_w17) (w1 := (w15.setCell ⟨go7, (8 : Int).toNat, none⟩ (.int .u8 0))) ?hg ?ho ?hn ?hr ?_; (case ho => rfl); (case hg => rfl); (case hn => rfl); (case hr => first | (go_simp; done) | (go_simp; rfl)); intro w17 hw; have hg : w15.grownBy w17 (some go7) := (by rw [hw]; exact HP16.2); have hp_ : Kd.R (Kd.int .u8) 5 w17 w.heap.size (fun _ => True) (.slice (some ⟨go7, 0, none⟩) t312.length co13) y317 := (by rw [hw, Ny317.out]; exact HP16.1); clear HP16; have n0_ := Aside0.mk (hp_); have n1_ := Aside0.mk ((by rw [hw]; exact below_set (HB.out) GB7.out : Below w.heap.size w w17)); clear HO314; clear HB; have HO314 := n0_; have HB := n1_; clear n0_ n1_; clear hg hw hp_; have p11 : 0 ≤ (9 : Int) := (by omega); have q11 : (9 : Int) < ((t312.length : Int) : Int) := of_decide_eq_true (by first | (with_reducible assumption) | assumption); have qi11 : (9 < t312.length) = True := eq_true (by omega); obtain ⟨hx11_0, hf11_0⟩ := Kd.R_celln 0 HO314.out (9 : Int) p11 q11; (try rw [show ((9 : Int)).toNat = 9 from rfl] at hx11_0); (try simp only [Nat.reduceMul, Nat.zero_mul, Nat.zero_add, Nat.reduceAdd] at hx11_0); (try rw [show ((9 : Int)).toNat = 9 from rfl] at hf11_0); (try simp only [Nat.reduceMul, Nat.zero_mul, Nat.zero_add, Nat.reduceAdd] at hf11_0); replace p11 := eq_true p11; replace q11 := eq_true q11; obtain ⟨hy18_, hz18_⟩ := Kd.R_celln 0 HO314.out (9 : Int) (by omega) (of_decide_eq_true (by first | (with_reducible assumption) | assumption)); (try simp only [Int.reduceToNat, Int.toNat_zero, Int.toNat_ofNat, Nat.reduceMul, Nat.zero_mul, Nat.zero_add] at hy18_ hz18_); (try rw [show ((9 : Int)).toNat = 9 from rfl] at hy18_); (try rw [show ((9 : Int)).toNat = 9 from rfl] at hz18_); have HP18 := Kd.R_putg HO314.out (9 : Int) 0) | ((with_reducible refine gate_store (t := 5) (p := 33) rfl ?_); (try (rw [drewN_self w17]; generalize hq_ : World.drewN w17 _ = w17; have n0_ := Aside0.mk (Kd.R_at hq_ HO314.out); have n1_ := Aside0.mk (below_at hq_ HB.out); clear hq_ HO314 HB; have HO314 := n0_; have HB := n1_; clear n0_ n1_; (try (obtain ⟨hy18_, hz18_⟩ := Kd.R_celln 0 HO314.out (9 : Int) (by omega) (of_decide_eq_true (by first | (with_reducible assumption) | assumption)))); (try (try simp only [Int.reduceToNat, Int.toNat_zero, Int.toNat_ofNat, Nat.reduceMul, Nat.zero_mul, Nat.zero_add] at hy18_ hz18_)); (try (try rw [show ((9 : Int)).toNat = 9 from rfl] at hy18_)); (try (try rw [show ((9 : Int)).toNat = 9 from rfl] at hz18_)); (try (have HP18 := Kd.R_putg HO314.out (9 : Int) 0)))); refine store_event (t := 5) (p := 33) (v := ?vo_w19) (w1 := (w17.setCell ⟨go7, (9 : Int).toNat, none⟩ (.int .u8 0))) ?hg ?ho ?hn ?hr ?_; (case ho => rfl); (case hg => rfl); (case hn => rfl); (case hr => first | (go_simp; done) | (go_simp; rfl)); intro w19 hw; have hg : w17.grownBy w19 (some go7) := (by rw [hw]; exact HP18.2); have hp_ : Kd.R (Kd.int .u8) 5 w19 w.heap.size (fun _ => True) (.slice (some ⟨go7, 0, none⟩) t312.length co13) y318 := (by rw [hw, Ny318.out]; exact HP18.1); clear HP18; have n0_ := Aside0.mk (hp_); have n1_ := Aside0.mk ((by rw [hw]; exact below_set (HB.out) GB7.out : Below w.heap.size w w19)); clear HO314; clear HB; have HO314 := n0_; have HB := n1_; clear n0_ n1_; clear hg hw hp_)); try go_wp2_with (first | (go_at_call 47; (with_reducible refine (spec_l1Bytes.calls _ _ l0 t312 _ ?side1 ?side2 A5.out).mono ?_); (case side1 => repeat (first | exact HR0.out | (with_reducible refine Kd.C_alloc ?_ _) | (with_reducible refine Kd.C_drewN ?_ _) | (with_reducible refine Kd.C_drew ?_))); (case side2 => exact HC0.out); rintro e w12 ⟨v313, rfl, ho0, hb⟩; have n0_ := Aside0.mk (Kd.R_lower ho0 (below_size (by repeat (first | (with_reducible first | exact HB.out | apply below_alloc | apply pw_below_drewN | apply below_drew1) | exact HB.out)))); have n1_ := Aside0.mk (below_step (by repeat (first | (with_reducible first | exact HB.out | apply below_alloc | apply pw_below_drewN | apply below_drew1) | exact HB.out)) hb); clear HB; have HO314 := n0_; have HB := n1_; clear n0_ n1_; (try clear hb); (try clear hb2); (try clear hk); (try clear hi); (try clear ho0); obtain ⟨Ao13, co13, eo13⟩ := Kd.R_slice HO314.out; subst eo13; have p315 : 0 ≤ (7 : Int) := (by omega); have q315 : 7 < (t312.length : Int) := of_decide_eq_true (by first | (with_reducible assumption) | assumption); obtain ⟨ad315, e315, hx315_0⟩ := Kd.at_int (Kd.R_reads' HO314.out).2.2 7 p315 q315; cases e315; (try simp only [show (7 : Int).toNat = 7 from rfl, Nat.reduceMul, Nat.reduceEqDiff, Go.Addr.add, ↓reduceIte] at hx315_0); have qi315 : (7 < t312.length) = True := eq_true (by omega); (try rw [show ((7 : Int)).toNat = 7 from rfl] at hx315_0); replace p315 := eq_true p315; replace q315 := eq_true q315; have p7 : 0 ≤ (7 : Int) := (by omega); have q7 : (7 : Int) < ((t312.length : Int) : Int) := of_decide_eq_true (by first | (with_reducible assumption) | assumption); have qi7 : (7 < t312.length) = True := eq_true (by omega); obtain ⟨go7, co7, eo7, gb7, gl7, cl7, HG7⟩ := Kd.R_form HO314.out (by omega); (first | cases eo7 | (injection eo7 with ea_ en_ ec_; (first | subst ea_ | (injection ea_ with ea_; subst ea_)); subst ec_; clear en_)); have GB7 := Aside0.mk gb7; have GG7 := Aside0.mk HG7; clear gb7 gl7 HG7; (first | simp only [add_plain] at hx315_0 | skip); obtain ⟨hx7_0, hf7_0⟩ := Kd.R_celln 0 HO314.out (7 : Int) p7 q7; (try rw [show ((7 : Int)).toNat = 7 from rfl] at hx7_0); (try simp only [Nat.reduceMul, Nat.zero_mul, Nat.zero_add, Nat.reduceAdd] at hx7_0); (try rw [show ((7 : Int)).toNat = 7 from rfl] at hf7_0); (try simp only [Nat.reduceMul, Nat.zero_mul, Nat.zero_add, Nat.reduceAdd] at hf7_0); replace p7 := eq_true p7; replace q7 := eq_true q7; obtain ⟨hy14_, hz14_⟩ := Kd.R_celln 0 HO314.out (7 : Int) (by omega) (of_decide_eq_true (by first | (with_reducible assumption) | assumption)); (try simp only [Int.reduceToNat, Int.toNat_zero, Int.toNat_ofNat, Nat.reduceMul, Nat.zero_mul, Nat.zero_add] at hy14_ hz14_); (try rw [show ((7 : Int)).toNat = 7 from rfl] at hy14_); (try rw [show ((7 : Int)).toNat = 7 from rfl] at hz14_); have HP14 := Kd.R_putg HO314.out (7 : Int) (Go.bits .and .u8 (rd t312 7) 224)) | ((with_reducible refine gate_store (t := 5) (p := 29) rfl ?_); (try (rw [drewN_self w12]; generalize hq_ : World.drewN w12 _ = w12; have n0_ := Aside0.mk (Kd.R_at hq_ HO314.out); have n1_ := Aside0.mk (below_at hq_ HB.out); clear hq_ HO314 HB; have HO314 := n0_; have HB := n1_; clear n0_ n1_; (try (obtain ⟨hy14_, hz14_⟩ := Kd.R_celln 0 HO314.out (7 : Int) (by omega) (of_decide_eq_true (by first | (with_reducible assumption) | assumption)))); (try (try simp only [Int.reduceToNat, Int.toNat_zero, Int.toNat_ofNat, Nat.reduceMul, Nat.zero_mul, Nat.zero_add] at hy14_ hz14_)); (try (try rw [show ((7 : Int)).toNat = 7 from rfl] at hy14_)); (try (try rw [show ((7 : Int)).toNat = 7 from rfl] at hz14_)); (try (have HP14 := Kd.R_putg HO314.out (7 : Int) (Go.bits .and .u8 (rd t312 7) 224))))); refine store_event (t := 5) (p := 29) (v := ?vo_w15) (w1 := (w12.setCell ⟨go7, (7 : Int).toNat, none⟩ (.int .u8 (Go.bits .and .u8 (rd t312 7) 224)))) ?hg ?ho ?hn ?hr ?_; (case ho => rfl); (case hg => rfl); (case hn => rfl); (case hr => first | (go_simp; done) | (go_simp; rfl)); intro w15 hw; have hg : w12.grownBy w15 (some go7) := (by rw [hw]; exact HP14.2); have hp_ : Kd.R (Kd.int .u8) 5 w15 w.heap.size (fun _ => True) (.slice (some ⟨go7, 0, none⟩) t312.length co13) y316 := (by rw [hw, Ny316.out]; exact HP14.1); clear HP14; have n0_ := Aside0.mk (hp_); have n1_ := Aside0.mk ((by rw [hw]; exact below_set (HB.out) GB7.out : Below w.heap.size w w15)); clear HO314; clear HB; have HO314 := n0_; have HB := n1_; clear n0_ n1_; clear hg hw hp_; have p9 : 0 ≤ (8 : Int) := (by omega); have q9 : (8 : Int) < ((t312.length : Int) : Int) := of_decide_eq_true (by first | (with_reducible assumption) | assumption); have qi9 : (8 < t312.length) = True := eq_true (by omega); obtain ⟨hx9_0, hf9_0⟩ := Kd.R_celln 0 HO314.out (8 : Int) p9 q9; (try rw [show ((8 : Int)).toNat = 8 from rfl] at hx9_0); (try simp only [Nat.reduceMul, Nat.zero_mul, Nat.zero_add, Nat.reduceAdd] at hx9_0); (try rw [show ((8 : Int)).toNat = 8 from rfl] at hf9_0); (try simp only [Nat.reduceMul, Nat.zero_mul, Nat.zero_add, Nat.reduceAdd] at hf9_0); replace p9 := eq_true p9; replace q9 := eq_true q9; obtain ⟨hy16_, hz16_⟩ := Kd.R_celln 0 HO314.out (8 : Int) (by omega) (of_decide_eq_true (by first | (with_reducible assumption) | assumption)); (try simp only [Int.reduceToNat, Int.toNat_zero, Int.toNat_ofNat, Nat.reduceMul, Nat.zero_mul, Nat.zero_add] at hy16_ hz16_); (try rw [show ((8 : Int)).toNat = 8 from rfl] at hy16_); (try rw [show ((8 : Int)).toNat = 8 from rfl] at hz16_); have HP16 := Kd.R_putg HO314.out (8 : Int) 0) | ((with_reducible refine gate_store (t := 5) (p := 31) rfl ?_); (try (rw [drewN_self w15]; generalize hq_ : World.drewN w15 _ = w15; have n0_ := Aside0.mk (Kd.R_at hq_ HO314.out); have n1_ := Aside0.mk (below_at hq_ HB.out); clear hq_ HO314 HB; have HO314 := n0_; have HB := n1_; clear n0_ n1_; (try (obtain ⟨hy16_, hz16_⟩ := Kd.R_celln 0 HO314.out (8 : Int) (by omega) (of_decide_eq_true (by first | (with_reducible assumption) | assumption)))); (try (try simp only [Int.reduceToNat, Int.toNat_zero, Int.toNat_ofNat, Nat.reduceMul, Nat.zero_mul, Nat.zero_add] at hy16_ hz16_)); (try (try rw [show ((8 : Int)).toNat = 8 from rfl] at hy16_)); (try (try rw [show ((8 : Int)).toNat = 8 from rfl] at hz16_)); (try (have HP16 := Kd.R_putg HO314.out (8 : Int) 0)))); refine store_event (t := 5) (p := 31) (v := ?vo_w17) (w1 := (w15.setCell ⟨go7, (8 : Int).toNat, none⟩ (.int .u8 0))) ?hg ?ho ?hn ?hr ?_; (case ho => rfl); (case hg => rfl); (case hn => rfl); (case hr => first | (go_simp; done) | (go_simp; rfl)); intro w17 hw; have hg : w15.grownBy w17 (some go7) := (by rw [hw]; exact HP16.2); have hp_ : Kd.R (Kd.int .u8) 5 w17 w.heap.size (fun _ => True) (.slice (some ⟨go7, 0, none⟩) t312.length co13) y317 := (by rw [hw, Ny317.out]; exact HP16.1); clear HP16; have n0_ := Aside0.mk (hp_); have n1_ := Aside0.mk ((by rw [hw]; exact below_set (HB.out) GB7.out : Below w.heap.size w w17)); clear HO314; clear HB; have HO314 := n0_; have HB := n1_; clear n0_ n1_; clear hg hw hp_; have p11 : 0 ≤ (9 : Int) := (by omega); have q11 : (9 : Int) < ((t312.length : Int) : Int) := of_decide_eq_true (by first | (with_reducible assumption) | assumption); have qi11 : (9 < t312.length) = True := eq_true (by omega); obtain ⟨hx11_0, hf11_0⟩ := Kd.R_celln 0 HO314.out (9 : Int) p11 q11; (try rw [show ((9 : Int)).toNat = 9 from rfl] at hx11_0); (try simp only [Nat.reduceMul, Nat.zero_mul, Nat.zero_add, Nat.reduceAdd] at hx11_0); (try rw [show ((9 : Int)).toNat = 9 from rfl] at hf11_0); (try simp only [Nat.reduceMul, Nat.zero_mul, Nat.zero_add, Nat.reduceAdd] at hf11_0); replace p11 := eq_true p11; replace q11 := eq_true q11; obtain ⟨hy18_, hz18_⟩ := Kd.R_celln 0 HO314.out (9 : Int) (by omega) (of_decide_eq_true (by first | (with_reducible assumption) | assumption)); (try simp only [Int.reduceToNat, Int.toNat_zero, Int.toNat_ofNat, Nat.reduceMul, Nat.zero_mul, Nat.zero_add] at hy18_ hz18_); (try rw [show ((9 : Int)).toNat = 9 from rfl] at hy18_); (try rw [show ((9 : Int)).toNat = 9 from rfl] at hz18_); have HP18 := Kd.R_putg HO314.out (9 : Int) 0) | ((with_reducible refine gate_store (t := 5) (p := 33) rfl ?_); (try (rw [drewN_self w17]; generalize hq_ : World.drewN w17 _ = w17; have n0_ := Aside0.mk (Kd.R_at hq_ HO314.out); have n1_ := Aside0.mk (below_at hq_ HB.out); clear hq_ HO314 HB; have HO314 := n0_; have HB := n1_; clear n0_ n1_; (try (obtain ⟨hy18_, hz18_⟩ := Kd.R_celln 0 HO314.out (9 : Int) (by omega) (of_decide_eq_true (by first | (with_reducible assumption) | assumption)))); (try (try simp only [Int.reduceToNat, Int.toNat_zero, Int.toNat_ofNat, Nat.reduceMul, Nat.zero_mul, Nat.zero_add] at hy18_ hz18_)); (try (try rw [show ((9 : Int)).toNat = 9 from rfl] at hy18_)); (try (try rw [show ((9 : Int)).toNat = 9 from rfl] at hz18_)); (try (have HP18 := Kd.R_putg HO314.out (9 : Int) 0)))); refine store_event (t := 5) (p := 33) (v := ?vo_w19) (w1 := (w17.setCell ⟨go7, (9 : Int).toNat, none⟩ (.int .u8 0))) ?hg ?ho ?hn ?hr ?_; (case ho => rfl); (case hg => rfl); (case hn => rfl); (case hr => first | (go_simp; done) | (go_simp; rfl)); intro w19 hw; have hg : w17.grownBy w19 (some go7) := (by rw [hw]; exact HP18.2); have hp_ : Kd.R (Kd.int .u8) 5 w19 w.heap.size (fun _ => True) (.slice (some ⟨go7, 0, none⟩) t312.length co13) y318 := (by rw [hw, Ny318.out]; exact HP18.1); clear HP18; have n0_ := Aside0.mk (hp_); have n1_ := Aside0.mk ((by rw [hw]; exact below_set (HB.out) GB7.out : Below w.heap.size w w19)); clear HO314; clear HB; have HO314 := n0_; have HB := n1_; clear n0_ n1_; clear hg hw hp_)))
              go_ret2
              exact ⟨_, by first | rfl | (simp [errW_none, errW_some] <;> rfl) | (simp [*, errW_none, errW_some] <;> rfl), by (with_reducible repeat (first | apply Kd.R_alloc | apply Kd.R_drewN | apply Kd.R_drew)); exact HO314.out, by repeat (first | (with_reducible first | exact HB.out | apply below_alloc | apply pw_below_drewN | apply below_drew1) | exact HB.out)⟩
            · rw [if_neg c10] at H
              exact absurd H (by simp)
          · rw [if_neg c8] at H
            exact absurd H (by simp)
        · rw [if_neg c6] at H
          exact absurd H (by simp)
      · rw [if_neg c4] at H
        exact absurd H (by simp)
    · rw [if_neg c3] at H
      exact absurd H (by simp)
  · rw [if_neg c2] at H
    exact absurd H (by simp)

/-! ### spec_l3C0: function 51 -/
def spec_l3C0.f  : Option (List Int) := (some (([192, 192, 192, 192, 0, 0, 0, 0] : List Int) : List Int)).bind fun y319 => ((some (([192, 192, 192, 192, 0, 0, 0, 0] : List Int) : List Int)).bind fun y322 => (if y319.length + y322.length < 140737488355328 then (some (y319 ++ y322)) else (none)))
set_option maxHeartbeats 8000000 in
set_option maxRecDepth 100000 in
theorem spec_l3C0.calls  (r : List Int) (w : World) (h : spec_l3C0.f  = some r) :
    Calls Tryd.prog 51 #[] w fun e w' => ∃ v0_ : Value, e = .returned (v0_) ∧ Kd.R (Kd.int .u8) 5 w' w.heap.size (fun _ => True) v0_ r ∧ Below w.heap.size w w' := by
  have HB := Aside0.mk (Below.refl w.heap.size w)
  have H : ((some (([192, 192, 192, 192, 0, 0, 0, 0] : List Int) : List Int)).bind fun y319 => ((some (([192, 192, 192, 192, 0, 0, 0, 0] : List Int) : List Int)).bind fun y322 => (if y319.length + y322.length < 140737488355328 then (some (y319 ++ y322)) else (none)))) = some r := h
  clear h
  obtain ⟨y319, hy319⟩ : ∃ y_ : List Int, y_ = (([192, 192, 192, 192, 0, 0, 0, 0] : List Int)) := ⟨_, rfl⟩
  replace H : ((some (([192, 192, 192, 192, 0, 0, 0, 0] : List Int) : List Int)).bind fun y322 => (if y319.length + y322.length < 140737488355328 then (some (y319 ++ y322)) else (none))) = some r := by first | (rw [hy319]; with_reducible exact H) | (have H2_ := (Option.bind_some _ _).symm.trans H; rw [hy319]; with_reducible exact H2_) | (have H2_ := (Option.bind_some _ _).symm.trans H; with_reducible exact H2_) | with_reducible exact H | (rw [hy319]; exact H) | exact H
  have Ny319 := Aside0.mk hy319
  clear hy319
  obtain ⟨y322, hy322⟩ : ∃ y_ : List Int, y_ = (([192, 192, 192, 192, 0, 0, 0, 0] : List Int)) := ⟨_, rfl⟩
  replace H : (if y319.length + y322.length < 140737488355328 then (some (y319 ++ y322)) else (none)) = some r := by first | (rw [hy322]; with_reducible exact H) | (have H2_ := (Option.bind_some _ _).symm.trans H; rw [hy322]; with_reducible exact H2_) | (have H2_ := (Option.bind_some _ _).symm.trans H; with_reducible exact H2_) | with_reducible exact H | (rw [hy322]; exact H) | exact H
  have Ny322 := Aside0.mk hy322
  clear hy322
  by_cases c1 : y319.length + y322.length < 140737488355328
  · rw [if_pos c1] at H
    have LMc1 := Aside0.mk c1
    clear c1
    obtain ⟨y325, hy325⟩ : ∃ y_ : List Int, y_ = (y319 ++ y322) := ⟨_, rfl⟩
    replace H : (some y325) = some r := by first | (rw [hy325]; with_reducible exact H) | (have H2_ := (Option.bind_some _ _).symm.trans H; rw [hy325]; with_reducible exact H2_) | (have H2_ := (Option.bind_some _ _).symm.trans H; with_reducible exact H2_) | with_reducible exact H | (rw [hy325]; exact H) | exact H
    have Ny325 := Aside0.mk hy325
    clear hy325
    obtain rfl := Option.some.inj H
    go_enter Tryd.func51, Tryd.ntmps51
    go_wp2_with (first | ((with_reducible refine gate_dst (N := 2) rfl ?_); refine Kd.R_lit (Kd.int .u8) _ 5 ?hg (N := 2) ?hd (xs := ([192, 192, 192, 192, 0, 0, 0, 0] : List Int)) (inner := [.int .u8 192, .int .u8 192, .int .u8 192, .int .u8 192, .int .u8 0, .int .u8 0, .int .u8 0, .int .u8 0]) (ok := fun _ => True) (okp := fun _ => True) ?hr ?hp (fun _ hk => hk) trivial (Below.refl _ _) (Nat.le_refl _) (by simp) ?_; (case hd => rfl); (case hg => rfl); (case hr => first | (go_simp; done) | (go_simp; rfl)); (case hp => exact (Reps.one (show Kd.M (Kd.int .u8) _ _ _ 192 [.int .u8 192] from rfl) (Reps.one (show Kd.M (Kd.int .u8) _ _ _ 192 [.int .u8 192] from rfl) (Reps.one (show Kd.M (Kd.int .u8) _ _ _ 192 [.int .u8 192] from rfl) (Reps.one (show Kd.M (Kd.int .u8) _ _ _ 192 [.int .u8 192] from rfl) (Reps.one (show Kd.M (Kd.int .u8) _ _ _ 0 [.int .u8 0] from rfl) (Reps.one (show Kd.M (Kd.int .u8) _ _ _ 0 [.int .u8 0] from rfl) (Reps.one (show Kd.M (Kd.int .u8) _ _ _ 0 [.int .u8 0] from rfl) (Reps.one (show Kd.M (Kd.int .u8) _ _ _ 0 [.int .u8 0] from rfl) (Reps.none _ _)))))))))); intro v320 w2 ho3 hb hg_ hnew_; clear hg_ hnew_; (first | rw [← Ny319.out] at ho3 | (simp only [Int.reduceToNat] at ho3; rw [← Ny319.out] at ho3)); have n0_ := Aside0.mk (Kd.R_lower ho3 (below_size (by repeat (first | (with_reducible first | exact HB.out | apply below_alloc | apply pw_below_drewN | apply below_drew1) | exact HB.out)))); have n1_ := Aside0.mk (below_step (by repeat (first | (with_reducible first | exact HB.out | apply below_alloc | apply pw_below_drewN | apply below_drew1) | exact HB.out)) hb); clear HB; have HO321 := n0_; have HB := n1_; clear n0_ n1_; clear hb ho3) | ((with_reducible refine gate_dst (N := 4) rfl ?_); refine Kd.R_lit (Kd.int .u8) _ 5 ?hg (N := 4) ?hd (xs := ([192, 192, 192, 192, 0, 0, 0, 0] : List Int)) (inner := [.int .u8 192, .int .u8 192, .int .u8 192, .int .u8 192, .int .u8 0, .int .u8 0, .int .u8 0, .int .u8 0]) (ok := fun _ => True) (okp := fun _ => True) ?hr ?hp (fun _ hk => hk) trivial (Below.refl _ _) (Nat.le_refl _) (by simp) ?_; (case hd => rfl); (case hg => rfl); (case hr => first | (go_simp; done) | (go_simp; rfl)); (case hp => exact (Reps.one (show Kd.M (Kd.int .u8) _ _ _ 192 [.int .u8 192] from rfl) (Reps.one (show Kd.M (Kd.int .u8) _ _ _ 192 [.int .u8 192] from rfl) (Reps.one (show Kd.M (Kd.int .u8) _ _ _ 192 [.int .u8 192] from rfl) (Reps.one (show Kd.M (Kd.int .u8) _ _ _ 192 [.int .u8 192] from rfl) (Reps.one (show Kd.M (Kd.int .u8) _ _ _ 0 [.int .u8 0] from rfl) (Reps.one (show Kd.M (Kd.int .u8) _ _ _ 0 [.int .u8 0] from rfl) (Reps.one (show Kd.M (Kd.int .u8) _ _ _ 0 [.int .u8 0] from rfl) (Reps.one (show Kd.M (Kd.int .u8) _ _ _ 0 [.int .u8 0] from rfl) (Reps.none _ _)))))))))); intro v323 w4 ho5 hb hg_ hnew_; clear hg_ hnew_; (first | rw [← Ny322.out] at ho5 | (simp only [Int.reduceToNat] at ho5; rw [← Ny322.out] at ho5)); have n0_ := Aside0.mk (Kd.R_elder' (by (with_reducible repeat (first | apply Kd.R_alloc | apply Kd.R_drewN | apply Kd.R_drew)); exact HO321.out) (Kd.R_base ho5) hb); have n1_ := Aside0.mk (Kd.R_lower (Kd.R_new' ho5 (Kd.R_lt (by (with_reducible repeat (first | apply Kd.R_alloc | apply Kd.R_drewN | apply Kd.R_drew)); exact HO321.out))) (below_size (by repeat (first | (with_reducible first | exact HB.out | apply below_alloc | apply pw_below_drewN | apply below_drew1) | exact HB.out)))); have n2_ := Aside0.mk (below_step (by repeat (first | (with_reducible first | exact HB.out | apply below_alloc | apply pw_below_drewN | apply below_drew1) | exact HB.out)) hb); clear HO321; clear HB; have HO321 := n0_; have HO324 := n1_; have HB := n2_; clear n0_ n1_ n2_; clear hb ho5; obtain ⟨Ao7, co7, eo7⟩ := Kd.R_slice HO324.out; subst eo7) | ((with_reducible refine gate_builtin (b := .append) (xs := #[.tmp 3, .tmp 4]) rfl ?_); at_builtin; refine Kd.R_append_rows (Kd.int .u8) (w0 := w) w.heap.size rfl (.tmp 3) (.tmp 4) 22 5 (.int .u8 0) 1 rfl Tryd.underlying22 info5 rfl (by decide) (by omega) v320 y319 y322 _ _ _ (fun k_ => some k_ ≠ (.slice Ao7 y322.length co7 : Value).ownBlock) (fun _ => False) rfl rfl ?aO ?aR (fun _ _ h => h) (fun _ h => h.elim) ?aF ?aB ?aS ?aL ?_; (case aR => repeat (first | exact (Kd.R_reads' HO324.out).2.2 | (with_reducible refine Kd.C_alloc ?_ _) | (with_reducible refine Kd.C_drewN ?_ _) | (with_reducible refine Kd.C_drew ?_))); (case aB => exact (by repeat (first | (with_reducible first | exact HB.out | apply below_alloc | apply pw_below_drewN | apply below_drew1) | exact HB.out))); (case aF => exact (fun k_ hk => Kd.fresh' (Kd.R_lt (by (with_reducible repeat (first | apply Kd.R_alloc | apply Kd.R_drewN | apply Kd.R_drew)); exact HO324.out)) k_ hk)); (case aO => exact (by (with_reducible repeat (first | apply Kd.R_alloc | apply Kd.R_drewN | apply Kd.R_drew)); exact Kd.R_mono HO321.out (fun _ hk => hk.2))); (case aS => exact (below_size (by repeat (first | (with_reducible first | exact HB.out | apply below_alloc | apply pw_below_drewN | apply below_drew1) | exact HB.out)))); (case aL => have := LMc1.out; omega); intro v326 w6 ho hb hg hat; rw [← Ny325.out] at ho; have n0_ := Aside0.mk (Kd.R_after (ok := (fun _ => True)) (by (with_reducible repeat (first | apply Kd.R_alloc | apply Kd.R_drewN | apply Kd.R_drew)); exact HO324.out) hg hat); have n1_ := Aside0.mk (hb); have n2_ := Aside0.mk (ho); clear HO324; clear HB; clear HO321; have HO324 := n0_; have HB := n1_; have HO327 := n2_; clear n0_ n1_ n2_; clear ho hb hg hat))
    go_ret
    exact ⟨_, by first | rfl | (simp [errW_none, errW_some] <;> rfl) | (simp [*, errW_none, errW_some] <;> rfl), by (with_reducible repeat (first | apply Kd.R_alloc | apply Kd.R_drewN | apply Kd.R_drew)); exact Kd.R_mono HO327.out (fun _ hk => trivial), by repeat (first | (with_reducible first | exact HB.out | apply below_alloc | apply pw_below_drewN | apply below_drew1) | exact HB.out)⟩
  · rw [if_neg c1] at H
    exact absurd H (by simp)

/-! ### spec_DukptInitial: function 27 -/
def spec_DukptInitial.j0 : Nat → List Int → List Int → Bool → Option (List Int)
  | 0, _, _, _ => none
  | k + 1, x0, x1, x14 => if x14 = true then (some ([] : List Int)) else ((spec_l3Count.f x1).bind fun bt328 => (if 8 ≤ (bt328.2.length : Int) then ((spec_Tdea.f k x0 (bt328.2.take 8) false).bind fun t336 => ((spec_l3C0.f).bind fun t339 => ((spec_l1Xor.f x0 t339).bind fun t342 => ((spec_Tdea.f k t342 (bt328.2.take 8) false).bind fun t349 => (if t336.length + t349.length < 140737488355328 then (some (t336 ++ t349)) else (none)))))) else (none)))
def spec_DukptInitial.f (k : Nat) (l0 : List Int) (l1 : List Int) : Option (List Int) := if (l0.length : Int) = 16 then (spec_DukptInitial.j0 k l0 l1 ((l1.length : Int) != 10)) else (spec_DukptInitial.j0 k l0 l1 true)
theorem spec_DukptInitial.mono_l : ∀ k, (∀ y0 y1 y2, LeO (spec_DukptInitial.j0 k y0 y1 y2) (spec_DukptInitial.j0 (k + 1) y0 y1 y2))
  | 0 => fun _ _ _ r h => by simp [spec_DukptInitial.j0] at h
  | k + 1 => by
    have ih0 := spec_DukptInitial.mono_l k
    · intro y0 y1 y2
      unfold spec_DukptInitial.j0
      repeat' first
      | (with_reducible exact ih0 _ _ _)
      | (with_reducible exact spec_Tdea.mono _ _ _ _)
      | (with_reducible exact LeO.refl _)
      | (with_reducible exact LeO.none _)
      | (with_reducible refine LeO.ite ?_ ?_)
      | (with_reducible refine LeO.bind ?_ (fun _ => ?_))
      | exact ih0 _ _ _
      | exact spec_Tdea.mono _ _ _ _
      | exact LeO.none _
      | refine LeO.ite ?_ ?_
      | refine LeO.bind ?_ (fun _ => ?_)
theorem spec_DukptInitial.mono : ∀ a0 a1 k, LeO (spec_DukptInitial.f k a0 a1) (spec_DukptInitial.f (k + 1) a0 a1) := by
  intro a0 a1 k
  have ih0 := spec_DukptInitial.mono_l k
  unfold spec_DukptInitial.f
  repeat' first
      | (with_reducible exact ih0 _ _ _)
      | (with_reducible exact spec_Tdea.mono _ _ _ _)
      | (with_reducible exact LeO.refl _)
      | (with_reducible exact LeO.none _)
      | (with_reducible refine LeO.ite ?_ ?_)
      | (with_reducible refine LeO.bind ?_ (fun _ => ?_))
      | exact ih0 _ _ _
      | exact spec_Tdea.mono _ _ _ _
      | exact LeO.none _
      | refine LeO.ite ?_ ?_
      | refine LeO.bind ?_ (fun _ => ?_)
def spec_DukptInitial.T4 : Bool × List (List Nat × List Nat) := (true, [([], []), ([], []), ([1], [1]), ([0, 2], [0, 2]), ([], []), ([3], []), ([4, 5, 5], [4, 5]), ([], []), ([7], [7]), ([6, 8, 6], [6, 8]), ([3, 9, 9], [3, 9]), ([10, 10, 0, 1, 2, 3, 4, 5, 6, 7, 8, 9, 10], [10])])
def spec_DukptInitial.B4 : List Nat := [0, 0, 2, 7, 0, 15, 63, 0, 128, 511, 1023, 2047]
theorem spec_DukptInitial.tab4 : rtab .any (opsOf Tryd.f27 4) = spec_DukptInitial.T4 := by kernel_rfl
theorem spec_DukptInitial.bits4 : waitsOk spec_DukptInitial.T4.2 spec_DukptInitial.B4 = true := by kernel_rfl
set_option maxHeartbeats 8000000 in
set_option maxRecDepth 100000 in
theorem spec_DukptInitial.calls (k : Nat) (A0 : Option Addr) (c0 : Nat) (l0 : List Int) (A1 : Option Addr) (c1 : Nat) (l1 : List Int) (r : List Int) (w : World) (hr0 : Kd.C (Kd.int .u8) w A0 l0.length l0) (hc0 : l0.length ≤ c0) (hr1 : Kd.C (Kd.int .u8) w A1 l1.length l1) (hc1 : l1.length ≤ c1) (h : spec_DukptInitial.f k l0 l1 = some r) :
    Calls Tryd.prog 27 #[.slice A0 l0.length c0, .slice A1 l1.length c1] w fun e w' => ∃ v0_ : Value, e = .returned (v0_) ∧ Kd.R (Kd.int .u8) 5 w' w.heap.size (fun _ => True) v0_ r ∧ Below w.heap.size w w' := by
  have HR0 := Aside0.mk hr0
  have HC0 := Aside0.mk hc0
  clear hr0 hc0
  have HR1 := Aside0.mk hr1
  have HC1 := Aside0.mk hc1
  clear hr1 hc1
  have HB := Aside0.mk (Below.refl w.heap.size w)
  have H : (if (l0.length : Int) = 16 then (spec_DukptInitial.j0 k l0 l1 ((l1.length : Int) != 10)) else (spec_DukptInitial.j0 k l0 l1 true)) = some r := h
  clear h
  have HC3 := Aside0.mk H
  clear H
  go_enter Tryd.func27, Tryd.ntmps27
  go_upto_region 1 with (fail)
  go_cut [14] (fun v14 wc => ∃ (kq : Nat) (x14_2 : Bool), v14 = .bool x14_2 ∧ Aside0 (spec_DukptInitial.j0 kq l0 l1 x14_2 = some r) ∧ Aside0 (kq ≤ k) ∧ Aside0 (Below w.heap.size w wc))
  case first =>
    have H := HC3.out
    clear HC3
    by_cases c4 : (l0.length : Int) = 16
    · rw [if_pos c4] at H
      have c4b0 : ((l0.length : Int) == 16) = true := beq_iff_eq.mpr c4
      have c4b1 : ((l0.length : Int) != 16) = false := bne_eq_false_iff_eq.mpr c4
      clear c4
      (first | rw [c4b0] | (simp only [i64_w, i32_w]; rw [c4b0]) | skip)
      have H' := Aside0.mk H
      clear H
      go_wp2
      go_meet
      case rel => exact ⟨_, (((l1.length : Int) != 10)), (by first | rfl | (simp; done) | (simp [*]; done)), H', ⟨by first | omega | exact Nat.le_refl _⟩, ⟨by repeat (first | (with_reducible first | exact HB.out | apply below_alloc | apply pw_below_drewN | apply below_drew1) | exact HB.out)⟩⟩
    · rw [if_neg c4] at H
      have c4b0 : ((l0.length : Int) == 16) = false := beq_eq_false_iff_ne.mpr c4
      have c4b1 : ((l0.length : Int) != 16) = true := bne_iff_ne.mpr c4
      (first | rw [c4b0] | (simp only [i64_w, i32_w]; rw [c4b0]) | skip)
      have H' := Aside0.mk H
      clear H
      go_wp2
      go_meet
      case rel => exact ⟨_, (true), (by first | rfl | (simp; done) | (simp [*]; done)), H', ⟨by first | omega | exact Nat.le_refl _⟩, ⟨by repeat (first | (with_reducible first | exact HB.out | apply below_alloc | apply pw_below_drewN | apply below_drew1) | exact HB.out)⟩⟩
  case rest =>
    clear HC3
    try clear c1
    try clear c2
    try clear p2
    try clear c4
    try clear c4b0
    try clear c4b1
    obtain ⟨kq, x14_2, rfl, HA, HJ2, HB⟩ := hcut
    cases kq with
    | zero => exact absurd HA.out (by simp [spec_DukptInitial.j0])
    | succ kj2 =>
      have H := HA.out
      clear HA
      simp only [spec_DukptInitial.j0] at H
      by_cases c5 : x14_2 = true
      · subst c5
        have H1 : (some ([] : List Int)) = some r := by rw [if_pos rfl] at H; exact H
        clear H
        have H := H1
        clear H1
        obtain rfl := Option.some.inj H
        go_wp2
        go_ret
        exact ⟨_, by first | rfl | (simp [errW_none, errW_some] <;> rfl) | (simp [*, errW_none, errW_some] <;> rfl), by first | exact Kd.R_nil _ _ _ _ _ | exact Kd.N_nil _ _ _ _ _ | exact Kd.V_nil _ _ _ _ _ | exact Kd.Q_nil _ _ _ _ _ | exact Kd.S_nil _ _ _ _ _, by repeat (first | (with_reducible first | exact HB.out | apply below_alloc | apply pw_below_drewN | apply below_drew1) | exact HB.out)⟩
      · replace c5 := Bool.eq_false_iff.mpr c5
        subst c5
        have H1 : ((spec_l3Count.f l1).bind fun bt328 => (if 8 ≤ (bt328.2.length : Int) then ((spec_Tdea.f kj2 l0 (bt328.2.take 8) false).bind fun t336 => ((spec_l3C0.f).bind fun t339 => ((spec_l1Xor.f l0 t339).bind fun t342 => ((spec_Tdea.f kj2 t342 (bt328.2.take 8) false).bind fun t349 => (if t336.length + t349.length < 140737488355328 then (some (t336 ++ t349)) else (none)))))) else (none))) = some r := by rw [if_neg (show ¬ (false = true) by decide)] at H; exact H
        clear H
        have H := H1
        clear H1
        replace H := Option.bind_eq_some_iff.mp H
        obtain ⟨⟨t328, t329⟩, A60, H⟩ := H
        replace H : (if 8 ≤ (t329.length : Int) then ((spec_Tdea.f kj2 l0 (t329.take 8) false).bind fun t336 => ((spec_l3C0.f).bind fun t339 => ((spec_l1Xor.f l0 t339).bind fun t342 => ((spec_Tdea.f kj2 t342 (t329.take 8) false).bind fun t349 => (if t336.length + t349.length < 140737488355328 then (some (t336 ++ t349)) else (none)))))) else (none)) = some r := H
        have A6 := Aside0.mk A60
        clear A60
        by_cases c7 : 8 ≤ (t329.length : Int)
        · rw [if_pos c7] at H
          have c7b0 := eq_true c7
          have c7b1 : decide (8 ≤ (t329.length : Int)) = true := decide_eq_true c7
          clear c7
          obtain ⟨y332, hy332⟩ : ∃ y_ : List Int, y_ = (t329.take 8) := ⟨_, rfl⟩
          replace H : ((spec_Tdea.f kj2 l0 y332 false).bind fun t336 => ((spec_l3C0.f).bind fun t339 => ((spec_l1Xor.f l0 t339).bind fun t342 => ((spec_Tdea.f kj2 t342 (t329.take 8) false).bind fun t349 => (if t336.length + t349.length < 140737488355328 then (some (t336 ++ t349)) else (none)))))) = some r := by first | (rw [hy332]; with_reducible exact H) | (have H2_ := (Option.bind_some _ _).symm.trans H; rw [hy332]; with_reducible exact H2_) | (have H2_ := (Option.bind_some _ _).symm.trans H; with_reducible exact H2_) | with_reducible exact H | (rw [hy332]; exact H) | exact H
          have Ny332 := Aside0.mk hy332
          clear hy332
          replace H := Option.bind_eq_some_iff.mp H
          obtain ⟨t336, A80, H⟩ := H
          replace H : ((spec_l3C0.f).bind fun t339 => ((spec_l1Xor.f l0 t339).bind fun t342 => ((spec_Tdea.f kj2 t342 (t329.take 8) false).bind fun t349 => (if t336.length + t349.length < 140737488355328 then (some (t336 ++ t349)) else (none))))) = some r := H
          have A8 := Aside0.mk A80
          clear A80
          replace H := Option.bind_eq_some_iff.mp H
          obtain ⟨t339, A90, H⟩ := H
          replace H : ((spec_l1Xor.f l0 t339).bind fun t342 => ((spec_Tdea.f kj2 t342 (t329.take 8) false).bind fun t349 => (if t336.length + t349.length < 140737488355328 then (some (t336 ++ t349)) else (none)))) = some r := H
          have A9 := Aside0.mk A90
          clear A90
          replace H := Option.bind_eq_some_iff.mp H
          obtain ⟨t342, A100, H⟩ := H
          replace H : ((spec_Tdea.f kj2 t342 (t329.take 8) false).bind fun t349 => (if t336.length + t349.length < 140737488355328 then (some (t336 ++ t349)) else (none))) = some r := H
          have A10 := Aside0.mk A100
          clear A100
          have c11b0 := eq_true (of_decide_eq_true (by first | (with_reducible assumption) | assumption) : 8 ≤ (t329.length : Int))
          obtain ⟨y345, hy345⟩ : ∃ y_ : List Int, y_ = (t329.take 8) := ⟨_, rfl⟩
          replace H : ((spec_Tdea.f kj2 t342 y345 false).bind fun t349 => (if t336.length + t349.length < 140737488355328 then (some (t336 ++ t349)) else (none))) = some r := by first | (rw [hy345]; with_reducible exact H) | (have H2_ := (Option.bind_some _ _).symm.trans H; rw [hy345]; with_reducible exact H2_) | (have H2_ := (Option.bind_some _ _).symm.trans H; with_reducible exact H2_) | with_reducible exact H | (rw [hy345]; exact H) | exact H
          have Ny345 := Aside0.mk hy345
          clear hy345
          have ey_ : y332 = y345 := by rw [Ny332.out, Ny345.out]
          subst ey_
          replace H := Option.bind_eq_some_iff.mp H
          obtain ⟨t349, A120, H⟩ := H
          replace H : (if t336.length + t349.length < 140737488355328 then (some (t336 ++ t349)) else (none)) = some r := H
          have A12 := Aside0.mk A120
          clear A120
          by_cases c13 : t336.length + t349.length < 140737488355328
          · rw [if_pos c13] at H
            have LMc13 := Aside0.mk c13
            clear c13
            obtain ⟨y352, hy352⟩ : ∃ y_ : List Int, y_ = (t336 ++ t349) := ⟨_, rfl⟩
            replace H : (some y352) = some r := by first | (rw [hy352]; with_reducible exact H) | (have H2_ := (Option.bind_some _ _).symm.trans H; rw [hy352]; with_reducible exact H2_) | (have H2_ := (Option.bind_some _ _).symm.trans H; with_reducible exact H2_) | with_reducible exact H | (rw [hy352]; exact H) | exact H
            have Ny352 := Aside0.mk hy352
            clear hy352
            obtain rfl := Option.some.inj H
            try go_wp2_with (first | ((with_reducible refine gate_callee (f := 50) rfl ?_); refine goesL_ (some 17) rfl rfl Tryd.func50 (by kernel_rfl) rfl #[.slice A1 l1.length c1] rfl (by (try simp only [List.map_toArray, List.map_cons, List.map_nil]); first | done | rfl | (simp only [List.length_drop, List.length_take]; rfl)) ?_; (with_reducible refine (spec_l3Count.calls _ _ l1 t328 t329 _ ?side1 ?side2 A6.out).mono ?_); (case side1 => repeat (first | exact (Kd.C_below HR1.out HB.out) | (with_reducible refine Kd.C_alloc ?_ _) | (with_reducible refine Kd.C_drewN ?_ _) | (with_reducible refine Kd.C_drew ?_))); (case side2 => exact HC1.out); rintro e w14 ⟨v330, rfl, ho0, hb⟩; refine ⟨_, rfl, ?_⟩; have n0_ := Aside0.mk (Kd.R_lower ho0 (below_size (by repeat (first | (with_reducible first | exact HB.out | apply below_alloc | apply pw_below_drewN | apply below_drew1) | exact HB.out)))); have n1_ := Aside0.mk (below_step (by repeat (first | (with_reducible first | exact HB.out | apply below_alloc | apply pw_below_drewN | apply below_drew1) | exact HB.out)) hb); clear HB; have HO331 := n0_; have HB := n1_; clear n0_ n1_; (try clear hb); (try clear hb2); (try clear hk); (try clear hi); (try clear ho0)))
            have n0_ := Aside0.mk (Kd.R_drew HO331.out)
            have n1_ := Aside0.mk (below_drew1 HB.out)
            clear HO331
            clear HB
            have HO331 := n0_
            have HB := n1_
            clear n0_ n1_
            obtain ⟨Ao17, co17, eo17⟩ := Kd.R_slice HO331.out
            (first | subst eo17 | (injection eo17 with f1_ f2_ f3_; have f4_ := f1_.symm; have f5_ := f3_.symm; clear f1_ f2_ f3_; subst f4_; subst f5_))
            have q16 : (8 : Int) ≤ ((t329.length : Int) : Int) := of_decide_eq_true (by first | (with_reducible assumption) | assumption)
            obtain ⟨i016, hi016, _, hsz16, _⟩ := info_parts info5
            have hroom16 : t329.length ≤ co17 := (Kd.R_reads' HO331.out).2.1
            have hC16 : Kd.C (Kd.int .u8) _ Ao17 t329.length t329 := (Kd.R_reads' HO331.out).2.2
            have hcut16 := cut_to (P := Tryd.prog) 22 5 .i64 Tryd.underlying22 hi016 Ao17 t329.length co17 8 (by omega) q16 hroom16
            have hr16 := Kd.C_take (m := 8) hC16 (by omega)
            have hy16 : y332.length = (8 : Int).toNat := (by rw [Ny332.out, List.length_take]; omega)
            rw [← Ny332.out] at hr16
            rw [← hy16] at hcut16
            have HR335 := Aside0.mk hr16
            have HC335 := Aside0.mk (show y332.length ≤ co17 from by omega)
            clear hr16 hC16 hroom16 hi016 hsz16
            have KY16 := Aside0.mk hy16
            clear hy16
            have KL16 := Aside0.mk (show 8 ≤ t329.length from by omega)
            replace q16 := eq_true q16
            have q18 : (8 : Int) ≤ ((t329.length : Int) : Int) := of_decide_eq_true (by first | (with_reducible assumption) | assumption)
            obtain ⟨i018, hi018, _, hsz18, _⟩ := info_parts info5
            have hroom18 : t329.length ≤ co17 := (Kd.R_reads' HO331.out).2.1
            have hC18 : Kd.C (Kd.int .u8) _ Ao17 t329.length t329 := (Kd.R_reads' HO331.out).2.2
            have hcut18 := cut_to (P := Tryd.prog) 22 5 .i64 Tryd.underlying22 hi018 Ao17 t329.length co17 8 (by omega) q18 hroom18
            have hr18 := Kd.C_take (m := 8) hC18 (by omega)
            have hy18 : y332.length = (8 : Int).toNat := (by rw [Ny345.out, List.length_take]; omega)
            rw [← Ny345.out] at hr18
            rw [← hy18] at hcut18
            have HR348 := Aside0.mk hr18
            have HC348 := Aside0.mk (show y332.length ≤ co17 from by omega)
            clear hr18 hC18 hroom18 hi018 hsz18
            have KY18 := Aside0.mk hy18
            clear hy18
            have KL18 := Aside0.mk (show 8 ≤ t329.length from by omega)
            replace q18 := eq_true q18
            refine start_ (n := 12) (S := fun w' => True) (ds := []) #[false, false, false, false, false, false, false, false, false, false, false, false] (by kernel_rfl) rfl rfl trivial (fun hHeld => ?_); refine with_tabW spec_DukptInitial.tab4 spec_DukptInitial.bits4 (fun HT_ HW_ => ?_)
            generalize w14.drew = w15 at HO331 HB HR335 HR348 hHeld ⊢
            refine pure_ (i := 0) (N := some 20) (v := ?_) (a' := ?_) #[true, false, false, false, false, false, false, false, false, false, false, false] rfl rfl (any_of HT_.out (by kernel_rfl)) (fun _ _ _ h => h) (Or.inl ⟨by rfl, ?_⟩) ?_ ?_
            rotate_left
            · intro w'
              go_simp
              with_reducible rfl
            rotate_left
            · simp only [Act.put, List.setIfInBounds_toArray, List.set_cons_zero, List.set_cons_succ, i64_w, i32_w]
              rfl
            refine pure_ (i := 1) (N := some 21) (v := ?_) (a' := ?_) #[true, true, false, false, false, false, false, false, false, false, false, false] rfl rfl (any_of HT_.out (by kernel_rfl)) (fun _ _ _ h => h) (Or.inl ⟨by rfl, ?_⟩) ?_ ?_
            rotate_left
            · intro w'
              go_simp
              with_reducible rfl
            rotate_left
            · simp only [Act.put, List.setIfInBounds_toArray, List.set_cons_zero, List.set_cons_succ, i64_w, i32_w]
              rfl
            refine pure_ (i := 2) (N := some 22) (v := ?_) (a' := ?_) #[true, true, true, false, false, false, false, false, false, false, false, false] rfl rfl (any_of HT_.out (by kernel_rfl)) (fun _ _ _ h => h) (Or.inl ⟨by rfl, ?_⟩) ?_ ?_
            rotate_left
            · intro w'
              go_simp
              with_reducible rfl
            rotate_left
            · simp only [Act.put, List.setIfInBounds_toArray, List.set_cons_zero, List.set_cons_succ, i64_w, i32_w]
              rfl
            refine pure_ (i := 4) (N := some 24) (v := ?_) (a' := ?_) #[true, true, true, false, true, false, false, false, false, false, false, false] rfl rfl (any_of HT_.out (by kernel_rfl)) (fun _ _ _ h => h) (Or.inl ⟨by rfl, ?_⟩) ?_ ?_
            rotate_left
            · intro w'
              go_simp
              with_reducible rfl
            rotate_left
            · simp only [Act.put, List.setIfInBounds_toArray, List.set_cons_zero, List.set_cons_succ, i64_w, i32_w]
              rfl
            refine pure_ (i := 7) (N := some 27) (v := ?_) (a' := ?_) #[true, true, true, false, true, false, false, true, false, false, false, false] rfl rfl (any_of HT_.out (by kernel_rfl)) (fun _ _ _ h => h) (Or.inl ⟨by rfl, ?_⟩) ?_ ?_
            rotate_left
            · intro w'
              go_simp
              with_reducible rfl
            rotate_left
            · simp only [Act.put, List.setIfInBounds_toArray, List.set_cons_zero, List.set_cons_succ, i64_w, i32_w]
              rfl
            refine pure_ (i := 8) (N := some 28) (v := ?_) (a' := ?_) #[true, true, true, false, true, false, false, true, true, false, false, false] rfl rfl (any_of HT_.out (by kernel_rfl)) (fun _ _ _ h => h) (Or.inl ⟨by rfl, ?_⟩) ?_ ?_
            rotate_left
            · intro w'
              go_simp
              with_reducible rfl
            rotate_left
            · simp only [Act.put, List.setIfInBounds_toArray, List.set_cons_zero, List.set_cons_succ, i64_w, i32_w]
              rfl
            refine one_ (i := 3) (N := some 23) #[true, true, true, true, true, false, false, true, true, false, false, false] rfl rfl (one_of HT_.out (by kernel_rfl)) (by decide) (fun K hK => ?_)
            refine goes_ Tryd.func23 (by kernel_rfl) rfl #[.slice A0 l0.length c0, .slice Ao17 y332.length co17, .bool false] (by rfl) rfl rfl (by (try simp only [List.map_toArray, List.map_cons, List.map_nil]); first | done | rfl | (simp only [List.length_drop, List.length_take]; rfl)) ?_
            with_reducible refine (spec_Tdea.calls kj2 _ _ l0 _ _ y332 false t336 _ ?side1 ?side2 ?side3 ?side4 A8.out).mono ?_
            (case side1 => repeat (first | exact (Kd.C_below HR0.out HB.out) | (with_reducible refine Kd.C_alloc ?_ _) | (with_reducible refine Kd.C_drewN ?_ _) | (with_reducible refine Kd.C_drew ?_)))
            (case side2 => exact HC0.out)
            (case side3 => repeat (first | exact (by repeat (first | (with_reducible exact HR335.out) | (with_reducible refine Kd.C_alloc ?_ _) | (with_reducible refine Kd.C_drewN ?_ _) | (with_reducible refine Kd.C_drew ?_) | exact HR335.out)) | (with_reducible refine Kd.C_alloc ?_ _) | (with_reducible refine Kd.C_drewN ?_ _) | (with_reducible refine Kd.C_drew ?_)))
            (case side4 => exact HC335.out)
            rintro e w19 ⟨v337, rfl, ho0, hb⟩
            refine ⟨_, rfl, ?_⟩
            have n0_ := Aside0.mk (Kd.R_elder' (by (with_reducible repeat (first | apply Kd.R_alloc | apply Kd.R_drewN | apply Kd.R_drew)); exact HO331.out) (Kd.R_base ho0) hb)
            have n1_ := Aside0.mk (Kd.R_lower (Kd.R_new' ho0 (Kd.R_lt (by (with_reducible repeat (first | apply Kd.R_alloc | apply Kd.R_drewN | apply Kd.R_drew)); exact HO331.out))) (below_size (by repeat (first | (with_reducible first | exact HB.out | apply below_alloc | apply pw_below_drewN | apply below_drew1) | exact HB.out))))
            have n2_ := Aside0.mk (Kd.C_below (by repeat (first | (with_reducible exact HR335.out) | (with_reducible refine Kd.C_alloc ?_ _) | (with_reducible refine Kd.C_drewN ?_ _) | (with_reducible refine Kd.C_drew ?_) | exact HR335.out)) hb)
            have n3_ := Aside0.mk (Kd.C_below (by repeat (first | (with_reducible exact HR348.out) | (with_reducible refine Kd.C_alloc ?_ _) | (with_reducible refine Kd.C_drewN ?_ _) | (with_reducible refine Kd.C_drew ?_) | exact HR348.out)) hb)
            have n4_ := Aside0.mk (below_step (by repeat (first | (with_reducible first | exact HB.out | apply below_alloc | apply pw_below_drewN | apply below_drew1) | exact HB.out)) hb)
            clear HO331
            clear HR335
            clear HR348
            clear HB
            have HO331 := n0_
            have HO338 := n1_
            have HR335 := n2_
            have HR348 := n3_
            have HB := n4_
            clear n0_ n1_ n2_ n3_ n4_
            (try clear hb)
            (try clear hb2)
            (try clear hk)
            (try clear hi)
            (try clear ho0)
            refine hK.out _ _ trivial (fun hHeld => ?_)
            clear hK K
            refine norm_ (a' := ?_) ?_ ?_
            rotate_left
            · show Act.put _ (some 23) _ = _
              simp only [Act.put, List.setIfInBounds_toArray, List.set_cons_zero, List.set_cons_succ, i64_w, i32_w]
              rfl
            refine one_ (i := 5) (N := some 25) #[true, true, true, true, true, true, false, true, true, false, false, false] rfl rfl (one_of HT_.out (by kernel_rfl)) (by decide) (fun K hK => ?_)
            refine goes_ Tryd.func51 (by kernel_rfl) rfl #[] (by rfl) rfl rfl (by (try simp only [List.map_toArray, List.map_cons, List.map_nil]); first | done | rfl | (simp only [List.length_drop, List.length_take]; rfl)) ?_
            with_reducible refine (spec_l3C0.calls  t339 _ A9.out).mono ?_
            rintro e w20 ⟨v340, rfl, ho0, hb⟩
            refine ⟨_, rfl, ?_⟩
            have n0_ := Aside0.mk (Kd.R_elder' (by (with_reducible repeat (first | apply Kd.R_alloc | apply Kd.R_drewN | apply Kd.R_drew)); exact HO331.out) (Kd.R_base ho0) hb)
            have n1_ := Aside0.mk (Kd.R_elder' (by (with_reducible repeat (first | apply Kd.R_alloc | apply Kd.R_drewN | apply Kd.R_drew)); exact HO338.out) (Kd.R_base ho0) hb)
            have n2_ := Aside0.mk (Kd.R_lower (Kd.R_new' (Kd.R_new' ho0 (Kd.R_lt (by (with_reducible repeat (first | apply Kd.R_alloc | apply Kd.R_drewN | apply Kd.R_drew)); exact HO331.out))) (Kd.R_lt (by (with_reducible repeat (first | apply Kd.R_alloc | apply Kd.R_drewN | apply Kd.R_drew)); exact HO338.out))) (below_size (by repeat (first | (with_reducible first | exact HB.out | apply below_alloc | apply pw_below_drewN | apply below_drew1) | exact HB.out))))
            have n3_ := Aside0.mk (Kd.C_below (by repeat (first | (with_reducible exact HR335.out) | (with_reducible refine Kd.C_alloc ?_ _) | (with_reducible refine Kd.C_drewN ?_ _) | (with_reducible refine Kd.C_drew ?_) | exact HR335.out)) hb)
            have n4_ := Aside0.mk (Kd.C_below (by repeat (first | (with_reducible exact HR348.out) | (with_reducible refine Kd.C_alloc ?_ _) | (with_reducible refine Kd.C_drewN ?_ _) | (with_reducible refine Kd.C_drew ?_) | exact HR348.out)) hb)
            have n5_ := Aside0.mk (below_step (by repeat (first | (with_reducible first | exact HB.out | apply below_alloc | apply pw_below_drewN | apply below_drew1) | exact HB.out)) hb)
            clear HO331
            clear HO338
            clear HR335
            clear HR348
            clear HB
            have HO331 := n0_
            have HO338 := n1_
            have HO341 := n2_
            have HR335 := n3_
            have HR348 := n4_
            have HB := n5_
            clear n0_ n1_ n2_ n3_ n4_ n5_
            (try clear hb)
            (try clear hb2)
            (try clear hk)
            (try clear hi)
            (try clear ho0)
            obtain ⟨Ao21, co21, eo21⟩ := Kd.R_slice HO341.out
            (first | subst eo21 | (injection eo21 with f1_ f2_ f3_; have f4_ := f1_.symm; have f5_ := f3_.symm; clear f1_ f2_ f3_; subst f4_; subst f5_))
            refine hK.out _ _ trivial (fun hHeld => ?_)
            clear hK K
            refine norm_ (a' := ?_) ?_ ?_
            rotate_left
            · show Act.put _ (some 25) _ = _
              simp only [Act.put, List.setIfInBounds_toArray, List.set_cons_zero, List.set_cons_succ, i64_w, i32_w]
              rfl
            refine one_ (i := 6) (N := some 26) #[true, true, true, true, true, true, true, true, true, false, false, false] rfl rfl (one_of HT_.out (by kernel_rfl)) (by decide) (fun K hK => ?_)
            refine goes_ Tryd.func45 (by kernel_rfl) rfl #[.slice A0 l0.length c0, .slice Ao21 t339.length co21] (by rfl) rfl rfl (by (try simp only [List.map_toArray, List.map_cons, List.map_nil]); first | done | rfl | (simp only [List.length_drop, List.length_take]; rfl)) ?_
            with_reducible refine (spec_l1Xor.calls _ _ l0 _ _ t339 t342 _ ?side1 ?side2 ?side3 ?side4 A10.out).mono ?_
            (case side1 => repeat (first | exact (Kd.C_below HR0.out HB.out) | (with_reducible refine Kd.C_alloc ?_ _) | (with_reducible refine Kd.C_drewN ?_ _) | (with_reducible refine Kd.C_drew ?_)))
            (case side2 => exact HC0.out)
            (case side3 => repeat (first | exact (Kd.R_reads' HO341.out).2.2 | (with_reducible refine Kd.C_alloc ?_ _) | (with_reducible refine Kd.C_drewN ?_ _) | (with_reducible refine Kd.C_drew ?_)))
            (case side4 => exact (Kd.R_reads' HO341.out).2.1)
            rintro e w22 ⟨v343, rfl, ho0, hb⟩
            refine ⟨_, rfl, ?_⟩
            have n0_ := Aside0.mk (Kd.R_elder' (by (with_reducible repeat (first | apply Kd.R_alloc | apply Kd.R_drewN | apply Kd.R_drew)); exact HO331.out) (Kd.R_base ho0) hb)
            have n1_ := Aside0.mk (Kd.R_elder' (by (with_reducible repeat (first | apply Kd.R_alloc | apply Kd.R_drewN | apply Kd.R_drew)); exact HO338.out) (Kd.R_base ho0) hb)
            have n2_ := Aside0.mk (Kd.R_elder' (by (with_reducible repeat (first | apply Kd.R_alloc | apply Kd.R_drewN | apply Kd.R_drew)); exact HO341.out) (Kd.R_base ho0) hb)
            have n3_ := Aside0.mk (Kd.R_lower (Kd.R_new' (Kd.R_new' (Kd.R_new' ho0 (Kd.R_lt (by (with_reducible repeat (first | apply Kd.R_alloc | apply Kd.R_drewN | apply Kd.R_drew)); exact HO331.out))) (Kd.R_lt (by (with_reducible repeat (first | apply Kd.R_alloc | apply Kd.R_drewN | apply Kd.R_drew)); exact HO338.out))) (Kd.R_lt (by (with_reducible repeat (first | apply Kd.R_alloc | apply Kd.R_drewN | apply Kd.R_drew)); exact HO341.out))) (below_size (by repeat (first | (with_reducible first | exact HB.out | apply below_alloc | apply pw_below_drewN | apply below_drew1) | exact HB.out))))
            have n4_ := Aside0.mk (Kd.C_below (by repeat (first | (with_reducible exact HR335.out) | (with_reducible refine Kd.C_alloc ?_ _) | (with_reducible refine Kd.C_drewN ?_ _) | (with_reducible refine Kd.C_drew ?_) | exact HR335.out)) hb)
            have n5_ := Aside0.mk (Kd.C_below (by repeat (first | (with_reducible exact HR348.out) | (with_reducible refine Kd.C_alloc ?_ _) | (with_reducible refine Kd.C_drewN ?_ _) | (with_reducible refine Kd.C_drew ?_) | exact HR348.out)) hb)
            have n6_ := Aside0.mk (below_step (by repeat (first | (with_reducible first | exact HB.out | apply below_alloc | apply pw_below_drewN | apply below_drew1) | exact HB.out)) hb)
            clear HO331
            clear HO338
            clear HO341
            clear HR335
            clear HR348
            clear HB
            have HO331 := n0_
            have HO338 := n1_
            have HO341 := n2_
            have HO344 := n3_
            have HR335 := n4_
            have HR348 := n5_
            have HB := n6_
            clear n0_ n1_ n2_ n3_ n4_ n5_ n6_
            (try clear hb)
            (try clear hb2)
            (try clear hk)
            (try clear hi)
            (try clear ho0)
            obtain ⟨Ao23, co23, eo23⟩ := Kd.R_slice HO344.out
            (first | subst eo23 | (injection eo23 with f1_ f2_ f3_; have f4_ := f1_.symm; have f5_ := f3_.symm; clear f1_ f2_ f3_; subst f4_; subst f5_))
            refine hK.out _ _ trivial (fun hHeld => ?_)
            clear hK K
            refine norm_ (a' := ?_) ?_ ?_
            rotate_left
            · show Act.put _ (some 26) _ = _
              simp only [Act.put, List.setIfInBounds_toArray, List.set_cons_zero, List.set_cons_succ, i64_w, i32_w]
              rfl
            refine one_ (i := 9) (N := some 29) #[true, true, true, true, true, true, true, true, true, true, false, false] rfl rfl (one_of HT_.out (by kernel_rfl)) (by decide) (fun K hK => ?_)
            refine goes_ Tryd.func23 (by kernel_rfl) rfl #[.slice Ao23 t342.length co23, .slice Ao17 y332.length co17, .bool false] (by rfl) rfl rfl (by (try simp only [List.map_toArray, List.map_cons, List.map_nil]); first | done | rfl | (simp only [List.length_drop, List.length_take]; rfl)) ?_
            with_reducible refine (spec_Tdea.calls kj2 _ _ t342 _ _ y332 false t349 _ ?side1 ?side2 ?side3 ?side4 A12.out).mono ?_
            (case side1 => repeat (first | exact (Kd.R_reads' HO344.out).2.2 | (with_reducible refine Kd.C_alloc ?_ _) | (with_reducible refine Kd.C_drewN ?_ _) | (with_reducible refine Kd.C_drew ?_)))
            (case side2 => exact (Kd.R_reads' HO344.out).2.1)
            (case side3 => repeat (first | exact (by repeat (first | (with_reducible exact HR348.out) | (with_reducible refine Kd.C_alloc ?_ _) | (with_reducible refine Kd.C_drewN ?_ _) | (with_reducible refine Kd.C_drew ?_) | exact HR348.out)) | (with_reducible refine Kd.C_alloc ?_ _) | (with_reducible refine Kd.C_drewN ?_ _) | (with_reducible refine Kd.C_drew ?_)))
            (case side4 => exact HC348.out)
            rintro e w24 ⟨v350, rfl, ho0, hb⟩
            refine ⟨_, rfl, ?_⟩
            have n0_ := Aside0.mk (Kd.R_elder' (by (with_reducible repeat (first | apply Kd.R_alloc | apply Kd.R_drewN | apply Kd.R_drew)); exact HO331.out) (Kd.R_base ho0) hb)
            have n1_ := Aside0.mk (Kd.R_elder' (by (with_reducible repeat (first | apply Kd.R_alloc | apply Kd.R_drewN | apply Kd.R_drew)); exact HO338.out) (Kd.R_base ho0) hb)
            have n2_ := Aside0.mk (Kd.R_elder' (by (with_reducible repeat (first | apply Kd.R_alloc | apply Kd.R_drewN | apply Kd.R_drew)); exact HO341.out) (Kd.R_base ho0) hb)
            have n3_ := Aside0.mk (Kd.R_elder' (by (with_reducible repeat (first | apply Kd.R_alloc | apply Kd.R_drewN | apply Kd.R_drew)); exact HO344.out) (Kd.R_base ho0) hb)
            have n4_ := Aside0.mk (Kd.R_lower (Kd.R_new' (Kd.R_new' (Kd.R_new' (Kd.R_new' ho0 (Kd.R_lt (by (with_reducible repeat (first | apply Kd.R_alloc | apply Kd.R_drewN | apply Kd.R_drew)); exact HO331.out))) (Kd.R_lt (by (with_reducible repeat (first | apply Kd.R_alloc | apply Kd.R_drewN | apply Kd.R_drew)); exact HO338.out))) (Kd.R_lt (by (with_reducible repeat (first | apply Kd.R_alloc | apply Kd.R_drewN | apply Kd.R_drew)); exact HO341.out))) (Kd.R_lt (by (with_reducible repeat (first | apply Kd.R_alloc | apply Kd.R_drewN | apply Kd.R_drew)); exact HO344.out))) (below_size (by repeat (first | (with_reducible first | exact HB.out | apply below_alloc | apply pw_below_drewN | apply below_drew1) | exact HB.out))))
            have n5_ := Aside0.mk (Kd.C_below (by repeat (first | (with_reducible exact HR335.out) | (with_reducible refine Kd.C_alloc ?_ _) | (with_reducible refine Kd.C_drewN ?_ _) | (with_reducible refine Kd.C_drew ?_) | exact HR335.out)) hb)
            have n6_ := Aside0.mk (Kd.C_below (by repeat (first | (with_reducible exact HR348.out) | (with_reducible refine Kd.C_alloc ?_ _) | (with_reducible refine Kd.C_drewN ?_ _) | (with_reducible refine Kd.C_drew ?_) | exact HR348.out)) hb)
            have n7_ := Aside0.mk (below_step (by repeat (first | (with_reducible first | exact HB.out | apply below_alloc | apply pw_below_drewN | apply below_drew1) | exact HB.out)) hb)
            clear HO331
            clear HO338
            clear HO341
            clear HO344
            clear HR335
            clear HR348
            clear HB
            have HO331 := n0_
            have HO338 := n1_
            have HO341 := n2_
            have HO344 := n3_
            have HO351 := n4_
            have HR335 := n5_
            have HR348 := n6_
            have HB := n7_
            clear n0_ n1_ n2_ n3_ n4_ n5_ n6_ n7_
            (try clear hb)
            (try clear hb2)
            (try clear hk)
            (try clear hi)
            (try clear ho0)
            obtain ⟨Ao26, co26, eo26⟩ := Kd.R_slice HO351.out
            (first | subst eo26 | (injection eo26 with f1_ f2_ f3_; have f4_ := f1_.symm; have f5_ := f3_.symm; clear f1_ f2_ f3_; subst f4_; subst f5_))
            refine hK.out _ _ trivial (fun hHeld => ?_)
            clear hK K
            refine norm_ (a' := ?_) ?_ ?_
            rotate_left
            · show Act.put _ (some 29) _ = _
              simp only [Act.put, List.setIfInBounds_toArray, List.set_cons_zero, List.set_cons_succ, i64_w, i32_w]
              rfl
            refine one_ (i := 10) (N := some 30) #[true, true, true, true, true, true, true, true, true, true, true, false] rfl rfl (one_of HT_.out (by kernel_rfl)) (by decide) (fun K hK => ?_)
            refine Kd.R_append_rows_step (Kd.int .u8) (w0 := w) w.heap.size (by rfl) (.tmp 23) (.tmp 29) 22 5 (.int .u8 0) 1 rfl Tryd.underlying22 info5 rfl (by decide) (by omega) v337 t336 t349 _ _ _ (fun k_ => some k_ ≠ (.slice Ao17 t329.length co17 : Value).ownBlock ∧ some k_ ≠ (.slice Ao21 t339.length co21 : Value).ownBlock ∧ some k_ ≠ (.slice Ao23 t342.length co23 : Value).ownBlock ∧ some k_ ≠ (.slice Ao26 t349.length co26 : Value).ownBlock) (fun _ => False) rfl rfl ?aO ?aR (fun _ _ h => h) (fun _ h => h.elim) ?aF ?aB ?aS ?aL ?_
            (case aR => repeat (first | exact (Kd.R_reads' HO351.out).2.2 | (with_reducible refine Kd.C_alloc ?_ _) | (with_reducible refine Kd.C_drewN ?_ _) | (with_reducible refine Kd.C_drew ?_)))
            (case aB => exact (by repeat (first | (with_reducible first | exact HB.out | apply below_alloc | apply pw_below_drewN | apply below_drew1) | exact HB.out)))
            (case aF => exact (fun k_ hk => ⟨Kd.fresh' (Kd.R_lt (by (with_reducible repeat (first | apply Kd.R_alloc | apply Kd.R_drewN | apply Kd.R_drew)); exact HO331.out)) k_ hk, Kd.fresh' (Kd.R_lt (by (with_reducible repeat (first | apply Kd.R_alloc | apply Kd.R_drewN | apply Kd.R_drew)); exact HO341.out)) k_ hk, Kd.fresh' (Kd.R_lt (by (with_reducible repeat (first | apply Kd.R_alloc | apply Kd.R_drewN | apply Kd.R_drew)); exact HO344.out)) k_ hk, Kd.fresh' (Kd.R_lt (by (with_reducible repeat (first | apply Kd.R_alloc | apply Kd.R_drewN | apply Kd.R_drew)); exact HO351.out)) k_ hk⟩))
            (case aO => exact (by (with_reducible repeat (first | apply Kd.R_alloc | apply Kd.R_drewN | apply Kd.R_drew)); exact Kd.R_mono HO338.out (fun _ hk => ⟨hk.1.1.1.2, ⟨hk.1.1.2, ⟨hk.1.2, hk.2⟩⟩⟩)))
            (case aS => exact (below_size (by repeat (first | (with_reducible first | exact HB.out | apply below_alloc | apply pw_below_drewN | apply below_drew1) | exact HB.out))))
            (case aL => have := LMc13.out; omega)
            intro v353 w25 ho hb hg hat
            rw [← Ny352.out] at ho
            have n0_ := Aside0.mk (Kd.R_after (ok := (fun k_ => some k_ ≠ (.slice Ao21 t339.length co21 : Value).ownBlock ∧ some k_ ≠ (.slice Ao23 t342.length co23 : Value).ownBlock ∧ some k_ ≠ (.slice Ao26 t349.length co26 : Value).ownBlock)) (by (with_reducible repeat (first | apply Kd.R_alloc | apply Kd.R_drewN | apply Kd.R_drew)); exact Kd.R_mono HO331.out (fun _ hk => ⟨⟨hk.1.1.2, ⟨hk.1.2, hk.2⟩⟩, hk.1.1.1.2⟩)) hg hat)
            have n1_ := Aside0.mk (Kd.R_after (ok := (fun k_ => some k_ ≠ (.slice Ao17 t329.length co17 : Value).ownBlock ∧ some k_ ≠ (.slice Ao23 t342.length co23 : Value).ownBlock ∧ some k_ ≠ (.slice Ao26 t349.length co26 : Value).ownBlock)) (by (with_reducible repeat (first | apply Kd.R_alloc | apply Kd.R_drewN | apply Kd.R_drew)); exact Kd.R_mono HO341.out (fun _ hk => ⟨⟨hk.1.1.1.2, ⟨hk.1.2, hk.2⟩⟩, hk.1.1.2⟩)) hg hat)
            have n2_ := Aside0.mk (Kd.R_after (ok := (fun k_ => some k_ ≠ (.slice Ao17 t329.length co17 : Value).ownBlock ∧ some k_ ≠ (.slice Ao21 t339.length co21 : Value).ownBlock ∧ some k_ ≠ (.slice Ao26 t349.length co26 : Value).ownBlock)) (by (with_reducible repeat (first | apply Kd.R_alloc | apply Kd.R_drewN | apply Kd.R_drew)); exact Kd.R_mono HO344.out (fun _ hk => ⟨⟨hk.1.1.1.2, ⟨hk.1.2, hk.2⟩⟩, hk.1.1.2⟩)) hg hat)
            have n3_ := Aside0.mk (Kd.R_after (ok := (fun k_ => some k_ ≠ (.slice Ao17 t329.length co17 : Value).ownBlock ∧ some k_ ≠ (.slice Ao21 t339.length co21 : Value).ownBlock ∧ some k_ ≠ (.slice Ao23 t342.length co23 : Value).ownBlock)) (by (with_reducible repeat (first | apply Kd.R_alloc | apply Kd.R_drewN | apply Kd.R_drew)); exact Kd.R_mono HO351.out (fun _ hk => ⟨⟨hk.1.1.1.2, ⟨hk.1.2, hk.2⟩⟩, hk.1.1.2⟩)) hg hat)
            have n4_ := Aside0.mk (hb)
            have n5_ := Aside0.mk ((show Kd.C (Kd.int .u8) w25 Ao17 y332.length y332 from by rw [Ny332.out]; exact Kd.C_take (m := 8) ((Kd.R_reads' (Kd.R_after (ok := (fun k_ => some k_ ≠ (.slice Ao21 t339.length co21 : Value).ownBlock ∧ some k_ ≠ (.slice Ao23 t342.length co23 : Value).ownBlock ∧ some k_ ≠ (.slice Ao26 t349.length co26 : Value).ownBlock)) (by (with_reducible repeat (first | apply Kd.R_alloc | apply Kd.R_drewN | apply Kd.R_drew)); exact Kd.R_mono HO331.out (fun _ hk => ⟨⟨hk.1.1.2, ⟨hk.1.2, hk.2⟩⟩, hk.1.1.1.2⟩)) hg hat)).2.2) KL16.out))
            have n6_ := Aside0.mk ((show Kd.C (Kd.int .u8) w25 Ao17 y332.length y332 from by rw [Ny345.out]; exact Kd.C_take (m := 8) ((Kd.R_reads' (Kd.R_after (ok := (fun k_ => some k_ ≠ (.slice Ao21 t339.length co21 : Value).ownBlock ∧ some k_ ≠ (.slice Ao23 t342.length co23 : Value).ownBlock ∧ some k_ ≠ (.slice Ao26 t349.length co26 : Value).ownBlock)) (by (with_reducible repeat (first | apply Kd.R_alloc | apply Kd.R_drewN | apply Kd.R_drew)); exact Kd.R_mono HO331.out (fun _ hk => ⟨⟨hk.1.1.2, ⟨hk.1.2, hk.2⟩⟩, hk.1.1.1.2⟩)) hg hat)).2.2) KL18.out))
            have n7_ := Aside0.mk (ho)
            clear HO331
            clear HO341
            clear HO344
            clear HO351
            clear HB
            clear HR335
            clear HR348
            clear HO338
            have HO331 := n0_
            have HO341 := n1_
            have HO344 := n2_
            have HO351 := n3_
            have HB := n4_
            have HR335 := n5_
            have HR348 := n6_
            have HO354 := n7_
            clear n0_ n1_ n2_ n3_ n4_ n5_ n6_ n7_
            clear ho hb hg hat
            refine hK.out _ _ trivial (fun hHeld => ?_)
            clear hK K
            refine norm_ (a' := ?_) ?_ ?_
            rotate_left
            · show Act.put _ (some 30) _ = _
              simp only [Act.put, List.setIfInBounds_toArray, List.set_cons_zero, List.set_cons_succ, i64_w, i32_w]
              rfl
            refine pure_ (i := 11) (N := some 4) (v := ?_) (a' := ?_) #[true, true, true, true, true, true, true, true, true, true, true, true] rfl rfl (any_of HT_.out (by kernel_rfl)) (fun _ _ _ h => h) (Or.inl ⟨by rfl, ?_⟩) ?_ ?_
            rotate_left
            · intro w'
              go_simp
              with_reducible rfl
            rotate_left
            · simp only [Act.put, List.setIfInBounds_toArray, List.set_cons_zero, List.set_cons_succ, i64_w, i32_w]
              rfl
            refine done_ (done_of HT_.out (by kernel_rfl)) ?_
            try go_wp2
            go_ret
            exact ⟨_, by first | rfl | (simp [errW_none, errW_some] <;> rfl) | (simp [*, errW_none, errW_some] <;> rfl), by (with_reducible repeat (first | apply Kd.R_alloc | apply Kd.R_drewN | apply Kd.R_drew)); exact Kd.R_mono HO354.out (fun _ hk => trivial), by repeat (first | (with_reducible first | exact HB.out | apply below_alloc | apply pw_below_drewN | apply below_drew1) | exact HB.out)⟩
          · rw [if_neg c13] at H
            exact absurd H (by simp)
        · rw [if_neg c7] at H
          exact absurd H (by simp)

/-! ### impl_counter: function 52 -/
def impl_counter.f (l0 : List Int) : Option (Int × List Int) := (some (([] : List Int) : List Int)).bind fun y355 => (if y355.length + l0.length < 140737488355328 then ((some (y355 ++ l0 : List Int)).bind fun y358 => (if 7 < (y358.length : Int) then (if 8 < (y358.length : Int) then (if 9 < (y358.length : Int) then (some (Go.bits .or .u64 (Go.bits .or .u64 (IntKind.u64.wrap ((IntKind.u64.wrap (Go.bits .and .u8 (rd y358 7) 31)) * 65536)) (IntKind.u64.wrap ((IntKind.u64.wrap (rd y358 8)) * 256))) (IntKind.u64.wrap (rd y358 9)), (((y358.set (7 : Int).toNat (Go.bits .andNot .u8 (rd y358 7) 31)).set (8 : Int).toNat 0).set (9 : Int).toNat 0))) else (none)) else (none)) else (none))) else (none))
set_option maxHeartbeats 8000000 in
set_option maxRecDepth 100000 in
theorem impl_counter.calls (A0 : Option Addr) (c0 : Nat) (l0 : List Int) (r1 : Int) (r2 : List Int) (w : World) (hr0 : Kd.C (Kd.int .u8) w A0 l0.length l0) (hc0 : l0.length ≤ c0) (h : impl_counter.f l0 = some (r1, r2)) :
    Calls Tryd.prog 52 #[.slice A0 l0.length c0] w fun e w' => ∃ v1_ : Value, e = .returned (.tuple #[.int .u64 r1, v1_]) ∧ Kd.R (Kd.int .u8) 5 w' w.heap.size (fun _ => True) v1_ r2 ∧ Below w.heap.size w w' := by
  have HR0 := Aside0.mk hr0
  have HC0 := Aside0.mk hc0
  clear hr0 hc0
  have HB := Aside0.mk (Below.refl w.heap.size w)
  have H : ((some (([] : List Int) : List Int)).bind fun y355 => (if y355.length + l0.length < 140737488355328 then ((some (y355 ++ l0 : List Int)).bind fun y358 => (if 7 < (y358.length : Int) then (if 8 < (y358.length : Int) then (if 9 < (y358.length : Int) then (some (Go.bits .or .u64 (Go.bits .or .u64 (IntKind.u64.wrap ((IntKind.u64.wrap (Go.bits .and .u8 (rd y358 7) 31)) * 65536)) (IntKind.u64.wrap ((IntKind.u64.wrap (rd y358 8)) * 256))) (IntKind.u64.wrap (rd y358 9)), (((y358.set (7 : Int).toNat (Go.bits .andNot .u8 (rd y358 7) 31)).set (8 : Int).toNat 0).set (9 : Int).toNat 0))) else (none)) else (none)) else (none))) else (none))) = some (r1, r2) := h
  clear h
  obtain ⟨y355, hy355⟩ : ∃ y_ : List Int, y_ = (([] : List Int)) := ⟨_, rfl⟩
  replace H : (if y355.length + l0.length < 140737488355328 then ((some (y355 ++ l0 : List Int)).bind fun y358 => (if 7 < (y358.length : Int) then (if 8 < (y358.length : Int) then (if 9 < (y358.length : Int) then (some (Go.bits .or .u64 (Go.bits .or .u64 (IntKind.u64.wrap ((IntKind.u64.wrap (Go.bits .and .u8 (rd y358 7) 31)) * 65536)) (IntKind.u64.wrap ((IntKind.u64.wrap (rd y358 8)) * 256))) (IntKind.u64.wrap (rd y358 9)), (((y358.set (7 : Int).toNat (Go.bits .andNot .u8 (rd y358 7) 31)).set (8 : Int).toNat 0).set (9 : Int).toNat 0))) else (none)) else (none)) else (none))) else (none)) = some (r1, r2) := by first | (rw [hy355]; with_reducible exact H) | (have H2_ := (Option.bind_some _ _).symm.trans H; rw [hy355]; with_reducible exact H2_) | (have H2_ := (Option.bind_some _ _).symm.trans H; with_reducible exact H2_) | with_reducible exact H | (rw [hy355]; exact H) | exact H
  have Ny355 := Aside0.mk hy355
  clear hy355
  by_cases c2 : y355.length + l0.length < 140737488355328
  · rw [if_pos c2] at H
    have LMc2 := Aside0.mk c2
    clear c2
    obtain ⟨y358, hy358⟩ : ∃ y_ : List Int, y_ = (y355 ++ l0) := ⟨_, rfl⟩
    replace H : (if 7 < (y358.length : Int) then (if 8 < (y358.length : Int) then (if 9 < (y358.length : Int) then (some (Go.bits .or .u64 (Go.bits .or .u64 (IntKind.u64.wrap ((IntKind.u64.wrap (Go.bits .and .u8 (rd y358 7) 31)) * 65536)) (IntKind.u64.wrap ((IntKind.u64.wrap (rd y358 8)) * 256))) (IntKind.u64.wrap (rd y358 9)), (((y358.set (7 : Int).toNat (Go.bits .andNot .u8 (rd y358 7) 31)).set (8 : Int).toNat 0).set (9 : Int).toNat 0))) else (none)) else (none)) else (none)) = some (r1, r2) := by first | (rw [hy358]; with_reducible exact H) | (have H2_ := (Option.bind_some _ _).symm.trans H; rw [hy358]; with_reducible exact H2_) | (have H2_ := (Option.bind_some _ _).symm.trans H; with_reducible exact H2_) | with_reducible exact H | (rw [hy358]; exact H) | exact H
    have Ny358 := Aside0.mk hy358
    clear hy358
    by_cases c3 : 7 < (y358.length : Int)
    · rw [if_pos c3] at H
      have c3b0 : decide (7 < (y358.length : Int)) = true := decide_eq_true c3
      have c3b1 : decide (7 < y358.length) = true := decide_eq_true (by omega)
      clear c3
      by_cases c4 : 8 < (y358.length : Int)
      · rw [if_pos c4] at H
        have c4b0 : decide (8 < (y358.length : Int)) = true := decide_eq_true c4
        have c4b1 : decide (8 < y358.length) = true := decide_eq_true (by omega)
        clear c4
        by_cases c5 : 9 < (y358.length : Int)
        · rw [if_pos c5] at H
          have c5b0 : decide (9 < (y358.length : Int)) = true := decide_eq_true c5
          have c5b1 : decide (9 < y358.length) = true := decide_eq_true (by omega)
          clear c5
          obtain ⟨y365, hy365⟩ : ∃ y_ : List Int, y_ = (y358.set (7 : Int).toNat (Go.bits .andNot .u8 (rd y358 7) 31)) := ⟨_, rfl⟩
          replace H : (some (Go.bits .or .u64 (Go.bits .or .u64 (IntKind.u64.wrap ((IntKind.u64.wrap (Go.bits .and .u8 (rd y358 7) 31)) * 65536)) (IntKind.u64.wrap ((IntKind.u64.wrap (rd y358 8)) * 256))) (IntKind.u64.wrap (rd y358 9)), ((y365.set (8 : Int).toNat 0).set (9 : Int).toNat 0))) = some (r1, r2) := by first | (rw [hy365]; with_reducible exact H) | (have H2_ := (Option.bind_some _ _).symm.trans H; rw [hy365]; with_reducible exact H2_) | (have H2_ := (Option.bind_some _ _).symm.trans H; with_reducible exact H2_) | with_reducible exact H | (rw [hy365]; exact H) | exact H
          have Ny365 := Aside0.mk hy365
          clear hy365
          obtain ⟨y366, hy366⟩ : ∃ y_ : List Int, y_ = (y365.set (8 : Int).toNat 0) := ⟨_, rfl⟩
          replace H : (some (Go.bits .or .u64 (Go.bits .or .u64 (IntKind.u64.wrap ((IntKind.u64.wrap (Go.bits .and .u8 (rd y358 7) 31)) * 65536)) (IntKind.u64.wrap ((IntKind.u64.wrap (rd y358 8)) * 256))) (IntKind.u64.wrap (rd y358 9)), (y366.set (9 : Int).toNat 0))) = some (r1, r2) := by first | (rw [hy366]; with_reducible exact H) | (have H2_ := (Option.bind_some _ _).symm.trans H; rw [hy366]; with_reducible exact H2_) | (have H2_ := (Option.bind_some _ _).symm.trans H; with_reducible exact H2_) | with_reducible exact H | (rw [hy366]; exact H) | exact H
          have Ny366 := Aside0.mk hy366
          clear hy366
          obtain ⟨y367, hy367⟩ : ∃ y_ : List Int, y_ = (y366.set (9 : Int).toNat 0) := ⟨_, rfl⟩
          replace H : (some (Go.bits .or .u64 (Go.bits .or .u64 (IntKind.u64.wrap ((IntKind.u64.wrap (Go.bits .and .u8 (rd y358 7) 31)) * 65536)) (IntKind.u64.wrap ((IntKind.u64.wrap (rd y358 8)) * 256))) (IntKind.u64.wrap (rd y358 9)), y367)) = some (r1, r2) := by first | (rw [hy367]; with_reducible exact H) | (have H2_ := (Option.bind_some _ _).symm.trans H; rw [hy367]; with_reducible exact H2_) | (have H2_ := (Option.bind_some _ _).symm.trans H; with_reducible exact H2_) | with_reducible exact H | (rw [hy367]; exact H) | exact H
          have Ny367 := Aside0.mk hy367
          clear hy367
          simp only [Option.some.injEq, Prod.mk.injEq] at H
          obtain ⟨rfl, rfl⟩ := H
          go_enter Tryd.func52, Tryd.ntmps52
          go_wp2_with (first | ((with_reducible refine gate_dst (N := 6) rfl ?_); refine Kd.R_lit (Kd.int .u8) _ 5 ?hg (N := 6) ?hd (xs := ([] : List Int)) (inner := []) (ok := fun _ => True) (okp := fun _ => True) ?hr ?hp (fun _ hk => hk) trivial (Below.refl _ _) (Nat.le_refl _) (by simp) ?_; (case hd => rfl); (case hg => rfl); (case hr => first | (go_simp; done) | (go_simp; rfl)); (case hp => exact (Reps.none _ _)); intro v356 w9 ho10 hb hg_ hnew_; clear hg_ hnew_; (first | rw [← Ny355.out] at ho10 | (simp only [Int.reduceToNat] at ho10; rw [← Ny355.out] at ho10)); have n0_ := Aside0.mk (Kd.R_lower ho10 (below_size (by repeat (first | (with_reducible first | exact HB.out | apply below_alloc | apply pw_below_drewN | apply below_drew1) | exact HB.out)))); have n1_ := Aside0.mk (below_step (by repeat (first | (with_reducible first | exact HB.out | apply below_alloc | apply pw_below_drewN | apply below_drew1) | exact HB.out)) hb); clear HB; have HO357 := n0_; have HB := n1_; clear n0_ n1_; clear hb ho10) | ((with_reducible refine gate_builtin (b := .append) (xs := #[.tmp 6, .tmp 7]) rfl ?_); at_builtin; refine Kd.R_append_rows (Kd.int .u8) (w0 := w) w.heap.size rfl (.tmp 6) (.tmp 7) 22 5 (.int .u8 0) 1 rfl Tryd.underlying22 info5 rfl (by decide) (by omega) v356 y355 l0 _ _ _ (fun _ => True) (fun _ => False) rfl rfl ?aO ?aR (fun _ _ h => h) (fun _ h => h.elim) ?aF ?aB ?aS ?aL ?_; (case aR => repeat (first | exact (Kd.C_below HR0.out HB.out) | (with_reducible refine Kd.C_alloc ?_ _) | (with_reducible refine Kd.C_drewN ?_ _) | (with_reducible refine Kd.C_drew ?_))); (case aB => exact (by repeat (first | (with_reducible first | exact HB.out | apply below_alloc | apply pw_below_drewN | apply below_drew1) | exact HB.out))); (case aF => exact (fun _ _ => trivial)); (case aO => exact (by (with_reducible repeat (first | apply Kd.R_alloc | apply Kd.R_drewN | apply Kd.R_drew)); exact HO357.out)); (case aS => exact (below_size (by repeat (first | (with_reducible first | exact HB.out | apply below_alloc | apply pw_below_drewN | apply below_drew1) | exact HB.out)))); (case aL => have := LMc2.out; omega); intro v359 w11 ho hb hg hat; rw [← Ny358.out] at ho; have n0_ := Aside0.mk (hb); have n1_ := Aside0.mk (ho); clear HB; clear HO357; have HB := n0_; have HO360 := n1_; clear n0_ n1_; clear ho hb hg hat; obtain ⟨Ao12, co12, eo12⟩ := Kd.R_slice HO360.out; subst eo12; have p361 : 0 ≤ (7 : Int) := (by omega); have q361 : 7 < (y358.length : Int) := of_decide_eq_true (by first | (with_reducible assumption) | assumption); obtain ⟨ad361, e361, hx361_0⟩ := Kd.at_int (Kd.R_reads' HO360.out).2.2 7 p361 q361; cases e361; (try simp only [show (7 : Int).toNat = 7 from rfl, Nat.reduceMul, Nat.reduceEqDiff, Go.Addr.add, ↓reduceIte] at hx361_0); have qi361 : (7 < y358.length) = True := eq_true (by omega); (try rw [show ((7 : Int)).toNat = 7 from rfl] at hx361_0); replace p361 := eq_true p361; replace q361 := eq_true q361; have p362 : 0 ≤ (8 : Int) := (by omega); have q362 : 8 < (y358.length : Int) := of_decide_eq_true (by first | (with_reducible assumption) | assumption); obtain ⟨ad362, e362, hx362_0⟩ := Kd.at_int (Kd.R_reads' HO360.out).2.2 8 p362 q362; obtain rfl : ad361 = ad362 := (by injection e362); (try simp only [show (8 : Int).toNat = 8 from rfl, Nat.reduceMul, Nat.reduceEqDiff, Go.Addr.add, ↓reduceIte] at hx362_0); have qi362 : (8 < y358.length) = True := eq_true (by omega); (try rw [show ((8 : Int)).toNat = 8 from rfl] at hx362_0); replace p362 := eq_true p362; replace q362 := eq_true q362; have p363 : 0 ≤ (9 : Int) := (by omega); have q363 : 9 < (y358.length : Int) := of_decide_eq_true (by first | (with_reducible assumption) | assumption); obtain ⟨ad363, e363, hx363_0⟩ := Kd.at_int (Kd.R_reads' HO360.out).2.2 9 p363 q363; obtain rfl : ad361 = ad363 := (by injection e363); (try simp only [show (9 : Int).toNat = 9 from rfl, Nat.reduceMul, Nat.reduceEqDiff, Go.Addr.add, ↓reduceIte] at hx363_0); have qi363 : (9 < y358.length) = True := eq_true (by omega); (try rw [show ((9 : Int)).toNat = 9 from rfl] at hx363_0); replace p363 := eq_true p363; replace q363 := eq_true q363; have p364 : 0 ≤ (7 : Int) := (by omega); have q364 : 7 < (y358.length : Int) := of_decide_eq_true (by first | (with_reducible assumption) | assumption); obtain ⟨ad364, e364, hx364_0⟩ := Kd.at_int (Kd.R_reads' HO360.out).2.2 7 p364 q364; obtain rfl : ad361 = ad364 := (by injection e364); (try simp only [show (7 : Int).toNat = 7 from rfl, Nat.reduceMul, Nat.reduceEqDiff, Go.Addr.add, ↓reduceIte] at hx364_0); have qi364 : (7 < y358.length) = True := eq_true (by omega); (try rw [show ((7 : Int)).toNat = 7 from rfl] at hx364_0); replace p364 := eq_true p364; replace q364 := eq_true q364; have p6 : 0 ≤ (7 : Int) := (by omega); have q6 : (7 : Int) < ((y358.length : Int) : Int) := of_decide_eq_true (by first | (with_reducible assumption) | assumption); have qi6 : (7 < y358.length) = True := eq_true (by omega); obtain ⟨go6, co6, eo6, gb6, gl6, cl6, HG6⟩ := Kd.R_form HO360.out (by omega); (first | cases eo6 | (injection eo6 with ea_ en_ ec_; (first | subst ea_ | (injection ea_ with ea_; subst ea_)); subst ec_; clear en_)); have GB6 := Aside0.mk gb6; have GG6 := Aside0.mk HG6; clear gb6 gl6 HG6; (first | simp only [add_plain] at hx361_0 | skip); (first | simp only [add_plain] at hx362_0 | skip); (first | simp only [add_plain] at hx363_0 | skip); (first | simp only [add_plain] at hx364_0 | skip); obtain ⟨hx6_0, hf6_0⟩ := Kd.R_celln 0 HO360.out (7 : Int) p6 q6; (try rw [show ((7 : Int)).toNat = 7 from rfl] at hx6_0); (try simp only [Nat.reduceMul, Nat.zero_mul, Nat.zero_add, Nat.reduceAdd] at hx6_0); (try rw [show ((7 : Int)).toNat = 7 from rfl] at hf6_0); (try simp only [Nat.reduceMul, Nat.zero_mul, Nat.zero_add, Nat.reduceAdd] at hf6_0); replace p6 := eq_true p6; replace q6 := eq_true q6; obtain ⟨hy13_, hz13_⟩ := Kd.R_celln 0 HO360.out (7 : Int) (by omega) (of_decide_eq_true (by first | (with_reducible assumption) | assumption)); (try simp only [Int.reduceToNat, Int.toNat_zero, Int.toNat_ofNat, Nat.reduceMul, Nat.zero_mul, Nat.zero_add] at hy13_ hz13_); (try rw [show ((7 : Int)).toNat = 7 from rfl] at hy13_); (try rw [show ((7 : Int)).toNat = 7 from rfl] at hz13_); have HP13 := Kd.R_putg HO360.out (7 : Int) (Go.bits .andNot .u8 (rd y358 7) 31)) | ((with_reducible refine gate_store (t := 5) (p := 33) rfl ?_); (try (rw [drewN_self w11]; generalize hq_ : World.drewN w11 _ = w11; have n0_ := Aside0.mk (Kd.R_at hq_ HO360.out); have n1_ := Aside0.mk (below_at hq_ HB.out); clear hq_ HO360 HB; have HO360 := n0_; have HB := n1_; clear n0_ n1_; (try (obtain ⟨hy13_, hz13_⟩ := Kd.R_celln 0 HO360.out (7 : Int) (by omega) (of_decide_eq_true (by first | (with_reducible assumption) | assumption)))); (try (try simp only [Int.reduceToNat, Int.toNat_zero, Int.toNat_ofNat, Nat.reduceMul, Nat.zero_mul, Nat.zero_add] at hy13_ hz13_)); (try (try rw [show ((7 : Int)).toNat = 7 from rfl] at hy13_)); (try (try rw [show ((7 : Int)).toNat = 7 from rfl] at hz13_)); (try (have HP13 := Kd.R_putg HO360.out (7 : Int) (Go.bits .andNot .u8 (rd y358 7) 31))))); refine store_event (t := 5) (p := 33) (v := ?vo_w14) (w1 := (w11.setCell ⟨go6, (7 : Int).toNat, none⟩ (.int .u8 (Go.bits .andNot .u8 (rd y358 7) 31)))) ?hg ?ho ?hn ?hr ?_; (case ho => rfl); (case hg => rfl); (case hn => rfl); (case hr => first | (go_simp; done) | (go_simp; rfl)); intro w14 hw; have hg : w11.grownBy w14 (some go6) := (by rw [hw]; exact HP13.2); have hp_ : Kd.R (Kd.int .u8) 5 w14 w.heap.size (fun _ => True) (.slice (some ⟨go6, 0, none⟩) y358.length co12) y365 := (by rw [hw, Ny365.out]; exact HP13.1); clear HP13; have n0_ := Aside0.mk (hp_); have n1_ := Aside0.mk ((by rw [hw]; exact below_set (HB.out) GB6.out : Below w.heap.size w w14)); clear HO360; clear HB; have HO360 := n0_; have HB := n1_; clear n0_ n1_; clear hg hw hp_; have p7 : 0 ≤ (8 : Int) := (by omega); have q7 : (8 : Int) < ((y358.length : Int) : Int) := of_decide_eq_true (by first | (with_reducible assumption) | assumption); have qi7 : (8 < y358.length) = True := eq_true (by omega); obtain ⟨hx7_0, hf7_0⟩ := Kd.R_celln 0 HO360.out (8 : Int) p7 q7; (try rw [show ((8 : Int)).toNat = 8 from rfl] at hx7_0); (try simp only [Nat.reduceMul, Nat.zero_mul, Nat.zero_add, Nat.reduceAdd] at hx7_0); (try rw [show ((8 : Int)).toNat = 8 from rfl] at hf7_0); (try simp only [Nat.reduceMul, Nat.zero_mul, Nat.zero_add, Nat.reduceAdd] at hf7_0); replace p7 := eq_true p7; replace q7 := eq_true q7; obtain ⟨hy15_, hz15_⟩ := Kd.R_celln 0 HO360.out (8 : Int) (by omega) (of_decide_eq_true (by first | (with_reducible assumption) | assumption)); (try simp only [Int.reduceToNat, Int.toNat_zero, Int.toNat_ofNat, Nat.reduceMul, Nat.zero_mul, Nat.zero_add] at hy15_ hz15_); (try rw [show ((8 : Int)).toNat = 8 from rfl] at hy15_); (try rw [show ((8 : Int)).toNat = 8 from rfl] at hz15_); have HP15 := Kd.R_putg HO360.out (8 : Int) 0) | ((with_reducible refine gate_store (t := 5) (p := 34) rfl ?_); (try (rw [drewN_self w14]; generalize hq_ : World.drewN w14 _ = w14; have n0_ := Aside0.mk (Kd.R_at hq_ HO360.out); have n1_ := Aside0.mk (below_at hq_ HB.out); clear hq_ HO360 HB; have HO360 := n0_; have HB := n1_; clear n0_ n1_; (try (obtain ⟨hy15_, hz15_⟩ := Kd.R_celln 0 HO360.out (8 : Int) (by omega) (of_decide_eq_true (by first | (with_reducible assumption) | assumption)))); (try (try simp only [Int.reduceToNat, Int.toNat_zero, Int.toNat_ofNat, Nat.reduceMul, Nat.zero_mul, Nat.zero_add] at hy15_ hz15_)); (try (try rw [show ((8 : Int)).toNat = 8 from rfl] at hy15_)); (try (try rw [show ((8 : Int)).toNat = 8 from rfl] at hz15_)); (try (have HP15 := Kd.R_putg HO360.out (8 : Int) 0)))); refine store_event (t := 5) (p := 34) (v := ?vo_w16) (w1 := (w14.setCell ⟨go6, (8 : Int).toNat, none⟩ (.int .u8 0))) ?hg ?ho ?hn ?hr ?_; (case ho => rfl); (case hg => rfl); (case hn => rfl); (case hr => first | (go_simp; done) | (go_simp; rfl)); intro w16 hw; have hg : w14.grownBy w16 (some go6) := (by rw [hw]; exact HP15.2); have hp_ : Kd.R (Kd.int .u8) 5 w16 w.heap.size (fun _ => True) (.slice (some ⟨go6, 0, none⟩) y358.length co12) y366 := (by rw [hw, Ny366.out]; exact HP15.1); clear HP15; have n0_ := Aside0.mk (hp_); have n1_ := Aside0.mk ((by rw [hw]; exact below_set (HB.out) GB6.out : Below w.heap.size w w16)); clear HO360; clear HB; have HO360 := n0_; have HB := n1_; clear n0_ n1_; clear hg hw hp_; have p8 : 0 ≤ (9 : Int) := (by omega); have q8 : (9 : Int) < ((y358.length : Int) : Int) := of_decide_eq_true (by first | (with_reducible assumption) | assumption); have qi8 : (9 < y358.length) = True := eq_true (by omega); obtain ⟨hx8_0, hf8_0⟩ := Kd.R_celln 0 HO360.out (9 : Int) p8 q8; (try rw [show ((9 : Int)).toNat = 9 from rfl] at hx8_0); (try simp only [Nat.reduceMul, Nat.zero_mul, Nat.zero_add, Nat.reduceAdd] at hx8_0); (try rw [show ((9 : Int)).toNat = 9 from rfl] at hf8_0); (try simp only [Nat.reduceMul, Nat.zero_mul, Nat.zero_add, Nat.reduceAdd] at hf8_0); replace p8 := eq_true p8; replace q8 := eq_true q8; obtain ⟨hy17_, hz17_⟩ := Kd.R_celln 0 HO360.out (9 : Int) (by omega) (of_decide_eq_true (by first | (with_reducible assumption) | assumption)); (try simp only [Int.reduceToNat, Int.toNat_zero, Int.toNat_ofNat, Nat.reduceMul, Nat.zero_mul, Nat.zero_add] at hy17_ hz17_); (try rw [show ((9 : Int)).toNat = 9 from rfl] at hy17_); (try rw [show ((9 : Int)).toNat = 9 from rfl] at hz17_); have HP17 := Kd.R_putg HO360.out (9 : Int) 0) | ((with_reducible refine gate_store (t := 5) (p := 35) rfl ?_); (try (rw [drewN_self w16]; generalize hq_ : World.drewN w16 _ = w16; have n0_ := Aside0.mk (Kd.R_at hq_ HO360.out); have n1_ := Aside0.mk (below_at hq_ HB.out); clear hq_ HO360 HB; have HO360 := n0_; have HB := n1_; clear n0_ n1_; (try (obtain ⟨hy17_, hz17_⟩ := Kd.R_celln 0 HO360.out (9 : Int) (by omega) (of_decide_eq_true (by first | (with_reducible assumption) | assumption)))); (try (try simp only [Int.reduceToNat, Int.toNat_zero, Int.toNat_ofNat, Nat.reduceMul, Nat.zero_mul, Nat.zero_add] at hy17_ hz17_)); (try (try rw [show ((9 : Int)).toNat = 9 from rfl] at hy17_)); (try (try rw [show ((9 : Int)).toNat = 9 from rfl] at hz17_)); (try (have HP17 := Kd.R_putg HO360.out (9 : Int) 0)))); refine store_event (t := 5) (p := 35) (v := ?vo_w18) (w1 := (w16.setCell ⟨go6, (9 : Int).toNat, none⟩ (.int .u8 0))) ?hg ?ho ?hn ?hr ?_; (case ho => rfl); (case hg => rfl); (case hn => rfl); (case hr => first | (go_simp; done) | (go_simp; rfl)); intro w18 hw; have hg : w16.grownBy w18 (some go6) := (by rw [hw]; exact HP17.2); have hp_ : Kd.R (Kd.int .u8) 5 w18 w.heap.size (fun _ => True) (.slice (some ⟨go6, 0, none⟩) y358.length co12) y367 := (by rw [hw, Ny367.out]; exact HP17.1); clear HP17; have n0_ := Aside0.mk (hp_); have n1_ := Aside0.mk ((by rw [hw]; exact below_set (HB.out) GB6.out : Below w.heap.size w w18)); clear HO360; clear HB; have HO360 := n0_; have HB := n1_; clear n0_ n1_; clear hg hw hp_))
          repeat (go_quiet (first | ((with_reducible refine gate_dst (N := 6) rfl ?_); refine Kd.R_lit (Kd.int .u8) _ 5 ?hg (N := 6) ?hd (xs := ([] : List Int)) (inner := []) (ok := fun _ => True) (okp := fun _ => True) ?hr ?hp (fun _ hk => hk) trivial (Below.refl _ _) (Nat.le_refl _) (by simp) ?_; (case hd => rfl); (case hg => rfl); (case hr => first | (go_simp; done) | (go_simp; rfl)); (case hp => exact (Reps.none _ _)); intro v356 w9 ho10 hb hg_ hnew_; clear hg_ hnew_; (first | rw [← Ny355.out] at ho10 | (simp only [Int.reduceToNat] at ho10; rw [← Ny355.out] at ho10)); have n0_ := Aside0.mk (Kd.R_lower ho10 (below_size (by repeat (first | (with_reducible first | exact HB.out | apply below_alloc | apply pw_below_drewN | apply below_drew1) | exact HB.out)))); have n1_ := Aside0.mk (below_step (by repeat (first | (with_reducible first | exact HB.out | apply below_alloc | apply pw_below_drewN | apply below_drew1) | exact HB.out)) hb); clear HB; have HO357 := n0_; have HB := n1_; clear n0_ n1_; clear hb ho10) | ((with_reducible refine gate_builtin (b := .append) (xs := #[.tmp 6, .tmp 7]) rfl ?_); at_builtin; refine Kd.R_append_rows (Kd.int .u8) (w0 := w) w.heap.size rfl (.tmp 6) (.tmp 7) 22 5 (.int .u8 0) 1 rfl Tryd.underlying22 info5 rfl (by decide) (by omega) v356 y355 l0 _ _ _ (fun _ => True) (fun _ => False) rfl rfl ?aO ?aR (fun _ _ h => h) (fun _ h => h.elim) ?aF ?aB ?aS ?aL ?_; (case aR => repeat (first | exact (Kd.C_below HR0.out HB.out) | (with_reducible refine Kd.C_alloc ?_ _) | (with_reducible refine Kd.C_drewN ?_ _) | (with_reducible refine Kd.C_drew ?_))); (case aB => exact (by repeat (first | (with_reducible first | exact HB.out | apply below_alloc | apply pw_below_drewN | apply below_drew1) | exact HB.out))); (case aF => exact (fun _ _ => trivial)); (case aO => exact (by (with_reducible repeat (first | apply Kd.R_alloc | apply Kd.R_drewN | apply Kd.R_drew)); exact HO357.out)); (case aS => exact (below_size (by repeat (first | (with_reducible first | exact HB.out | apply below_alloc | apply pw_below_drewN | apply below_drew1) | exact HB.out)))); (case aL => have := LMc2.out; omega); intro v359 w11 ho hb hg hat; rw [← Ny358.out] at ho; have n0_ := Aside0.mk (hb); have n1_ := Aside0.mk (ho); clear HB; clear HO357; have HB := n0_; have HO360 := n1_; clear n0_ n1_; clear ho hb hg hat; obtain ⟨Ao12, co12, eo12⟩ := Kd.R_slice HO360.out; subst eo12; have p361 : 0 ≤ (7 : Int) := (by omega); have q361 : 7 < (y358.length : Int) := of_decide_eq_true (by first | (with_reducible assumption) | assumption); obtain ⟨ad361, e361, hx361_0⟩ := Kd.at_int (Kd.R_reads' HO360.out).2.2 7 p361 q361; cases e361; (try simp only [show (7 : Int).toNat = 7 from rfl, Nat.reduceMul, Nat.reduceEqDiff, Go.Addr.add, ↓reduceIte] at hx361_0); have qi361 : (7 < y358.length) = True := eq_true (by omega); (try rw [show ((7 : Int)).toNat = 7 from rfl] at hx361_0); replace p361 := eq_true p361; replace q361 := eq_true q361; have p362 : 0 ≤ (8 : Int) := (by omega); have q362 : 8 < (y358.length : Int) := of_decide_eq_true (by first | (with_reducible assumption) | assumption); obtain ⟨ad362, e362, hx362_0⟩ := Kd.at_int (Kd.R_reads' HO360.out).2.2 8 p362 q362; obtain rfl : ad361 = ad362 := (by injection e362); (try simp only [show (8 : Int).toNat = 8 from rfl, Nat.reduceMul, Nat.reduceEqDiff, Go.Addr.add, ↓reduceIte] at hx362_0); have qi362 : (8 < y358.length) = True := eq_true (by omega); (try rw [show ((8 : Int)).toNat = 8 from rfl] at hx362_0); replace p362 := eq_true p362; replace q362 := eq_true q362; have p363 : 0 ≤ (9 : Int) := (by omega); have q363 : 9 < (y358.length : Int) := of_decide_eq_true (by first | (with_reducible assumption) | assumption); obtain ⟨ad363, e363, hx363_0⟩ := Kd.at_int (Kd.R_reads' HO360.out).2.2 9 p363 q363; obtain rfl : ad361 = ad363 := (by injection e363); (try simp only [show (9 : Int).toNat = 9 from rfl, Nat.reduceMul, Nat.reduceEqDiff, Go.Addr.add, ↓reduceIte] at hx363_0); have qi363 : (9 < y358.length) = True := eq_true (by omega); (try rw [show ((9 : Int)).toNat = 9 from rfl] at hx363_0); replace p363 := eq_true p363; replace q363 := eq_true q363; have p364 : 0 ≤ (7 : Int) := (by omega); have q364 : 7 < (y358.length : Int) := of_decide_eq_true (by first | (with_reducible assumption) | assumption); obtain ⟨ad364, e364, hx364_0⟩ := Kd.at_int (Kd.R_reads' HO360.out).2.2 7 p364 q364; obtain rfl : ad361 = ad364 := (by injection e364); (try simp only [show (7 : Int).toNat = 7 from rfl, Nat.reduceMul, Nat.reduceEqDiff, Go.Addr.add, ↓reduceIte] at hx364_0); have qi364 : (7 < y358.length) = True := eq_true (by omega); (try rw [show ((7 : Int)).toNat = 7 from rfl] at hx364_0); replace p364 := eq_true p364; replace q364 := eq_true q364; have p6 : 0 ≤ (7 : Int) := (by omega); have q6 : (7 : Int) < ((y358.length : Int) : Int) := of_decide_eq_true (by first | (with_reducible assumption) | assumption); have qi6 : (7 < y358.length) = True := eq_true (by omega); obtain ⟨go6, co6, eo6, gb6, gl6, cl6, HG6⟩ := Kd.R_form HO360.out (by omega); (first | cases eo6 | (injection eo6 with ea_ en_ ec_; (first | subst ea_ | (injection ea_ with ea_; subst ea_)); subst ec_; clear en_)); have GB6 := Aside0.mk gb6; have GG6 := Aside0.mk HG6; clear gb6 gl6 HG6; (first | simp only [add_plain] at hx361_0 | skip); (first | simp only [add_plain] at hx362_0 | skip); (first | simp only [add_plain] at hx363_0 | skip); (first | simp only [add_plain] at hx364_0 | skip); obtain ⟨hx6_0, hf6_0⟩ := Kd.R_celln 0 HO360.out (7 : Int) p6 q6; (try rw [show ((7 : Int)).toNat = 7 from rfl] at hx6_0); (try simp only [Nat.reduceMul, Nat.zero_mul, Nat.zero_add, Nat.reduceAdd] at hx6_0); (try rw [show ((7 : Int)).toNat = 7 from rfl] at hf6_0); (try simp only [Nat.reduceMul, Nat.zero_mul, Nat.zero_add, Nat.reduceAdd] at hf6_0); replace p6 := eq_true p6; replace q6 := eq_true q6; obtain ⟨hy13_, hz13_⟩ := Kd.R_celln 0 HO360.out (7 : Int) (by omega) (of_decide_eq_true (by first | (with_reducible assumption) | assumption)); (try simp only [Int.reduceToNat, Int.toNat_zero, Int.toNat_ofNat, Nat.reduceMul, Nat.zero_mul, Nat.zero_add] at hy13_ hz13_); (try rw [show ((7 : Int)).toNat = 7 from rfl] at hy13_); (try rw [show ((7 : Int)).toNat = 7 from rfl] at hz13_); have HP13 := Kd.R_putg HO360.out (7 : Int) (Go.bits .andNot .u8 (rd y358 7) 31)) | ((with_reducible refine gate_store (t := 5) (p := 33) rfl ?_); (try (rw [drewN_self w11]; generalize hq_ : World.drewN w11 _ = w11; have n0_ := Aside0.mk (Kd.R_at hq_ HO360.out); have n1_ := Aside0.mk (below_at hq_ HB.out); clear hq_ HO360 HB; have HO360 := n0_; have HB := n1_; clear n0_ n1_; (try (obtain ⟨hy13_, hz13_⟩ := Kd.R_celln 0 HO360.out (7 : Int) (by omega) (of_decide_eq_true (by first | (with_reducible assumption) | assumption)))); (try (try simp only [Int.reduceToNat, Int.toNat_zero, Int.toNat_ofNat, Nat.reduceMul, Nat.zero_mul, Nat.zero_add] at hy13_ hz13_)); (try (try rw [show ((7 : Int)).toNat = 7 from rfl] at hy13_)); (try (try rw [show ((7 : Int)).toNat = 7 from rfl] at hz13_)); (try (have HP13 := Kd.R_putg HO360.out (7 : Int) (Go.bits .andNot .u8 (rd y358 7) 31))))); refine store_event (t := 5) (p := 33) (v := ?vo_w14) (w1 := (w11.setCell ⟨go6, (7 : Int).toNat, none⟩ (.int .u8 (Go.bits .andNot .u8 (rd y358 7) 31)))) ?hg ?ho ?hn ?hr ?_; (case ho => rfl); (case hg => rfl); (case hn => rfl); (case hr => first | (go_simp; done) | (go_simp; rfl)); intro w14 hw; have hg : w11.grownBy w14 (some go6) := (by rw [hw]; exact HP13.2); have hp_ : Kd.R (Kd.int .u8) 5 w14 w.heap.size (fun _ => True) (.slice (some ⟨go6, 0, none⟩) y358.length co12) y365 := (by rw [hw, Ny365.out]; exact HP13.1); clear HP13; have n0_ := Aside0.mk (hp_); have n1_ := Aside0.mk ((by rw [hw]; exact below_set (HB.out) GB6.out : Below w.heap.size w w14)); clear HO360; clear HB; have HO360 := n0_; have HB := n1_; clear n0_ n1_; clear hg hw hp_; have p7 : 0 ≤ (8 : Int) := (by omega); have q7 : (8 : Int) < ((y358.length : Int) : Int) := of_decide_eq_true (by first | (with_reducible assumption) | assumption); have qi7 : (8 < y358.length) = True := eq_true (by omega); obtain ⟨hx7_0, hf7_0⟩ := Kd.R_celln 0 HO360.out (8 : Int) p7 q7; (try rw [show ((8 : Int)).toNat = 8 from rfl] at hx7_0); (try simp only [Nat.reduceMul, Nat.zero_mul, Nat.zero_add, Nat.reduceAdd] at hx7_0); (try rw [show ((8 : Int)).toNat = 8 from rfl] at hf7_0); (try simp only [Nat.reduceMul, Nat.zero_mul, Nat.zero_add, Nat.reduceAdd] at hf7_0); replace p7 := eq_true p7; replace q7 := eq_true q7; obtain ⟨hy15_, hz15_⟩ := Kd.R_celln 0 HO360.out (8 : Int) (by omega) (of_decide_eq_true (by first | (with_reducible assumption) | assumption)); (try simp only [Int.reduceToNat, Int.toNat_zero, Int.toNat_ofNat, Nat.reduceMul, Nat.zero_mul, Nat.zero_add] at hy15_ hz15_); (try rw [show ((8 : Int)).toNat = 8 from rfl] at hy15_); (try rw [show ((8 : Int)).toNat = 8 from rfl] at hz15_); have HP15 := Kd.R_putg HO360.out (8 : Int) 0) | ((with_reducible refine gate_store (t := 5) (p := 34) rfl ?_); (try (rw [drewN_self w14]; generalize hq_ : World.drewN w14 _ = w14; have n0_ := Aside0.mk (Kd.R_at hq_ HO360.out); have n1_ := Aside0.mk (below_at hq_ HB.out); clear hq_ HO360 HB; have HO360 := n0_; have HB := n1_; clear n0_ n1_; (try (obtain ⟨hy15_, hz15_⟩ := Kd.R_celln 0 HO360.out (8 : Int) (by omega) (of_decide_eq_true (by first | (with_reducible assumption) | assumption)))); (try (try simp only [Int.reduceToNat, Int.toNat_zero, Int.toNat_ofNat, Nat.reduceMul, Nat.zero_mul, Nat.zero_add] at hy15_ hz15_)); (try (try rw [show ((8 : Int)).toNat = 8 from rfl] at hy15_)); (try (try rw [show ((8 : Int)).toNat = 8 from rfl] at hz15_)); (try (have HP15 := Kd.R_putg HO360.out (8 : Int) 0)))); refine store_event (t := 5) (p := 34) (v := ?vo_w16) (w1 := (w14.setCell ⟨go6, (8 : Int).toNat, none⟩ (.int .u8 0))) ?hg ?ho ?hn ?hr ?_; (case ho => rfl); (case hg => rfl); (case hn => rfl); (case hr => first | (go_simp; done) | (go_simp; rfl)); intro w16 hw; have hg : w14.grownBy w16 (some go6) := (by rw [hw]; exact HP15.2); have hp_ : Kd.R (Kd.int .u8) 5 w16 w.heap.size (fun _ => True) (.slice (some ⟨go6, 0, none⟩) y358.length co12) y366 := (by rw [hw, Ny366.out]; exact HP15.1); clear HP15; have n0_ := Aside0.mk (hp_); have n1_ := Aside0.mk ((by rw [hw]; exact below_set (HB.out) GB6.out : Below w.heap.size w w16)); clear HO360; clear HB; have HO360 := n0_; have HB := n1_; clear n0_ n1_; clear hg hw hp_; have p8 : 0 ≤ (9 : Int) := (by omega); have q8 : (9 : Int) < ((y358.length : Int) : Int) := of_decide_eq_true (by first | (with_reducible assumption) | assumption); have qi8 : (9 < y358.length) = True := eq_true (by omega); obtain ⟨hx8_0, hf8_0⟩ := Kd.R_celln 0 HO360.out (9 : Int) p8 q8; (try rw [show ((9 : Int)).toNat = 9 from rfl] at hx8_0); (try simp only [Nat.reduceMul, Nat.zero_mul, Nat.zero_add, Nat.reduceAdd] at hx8_0); (try rw [show ((9 : Int)).toNat = 9 from rfl] at hf8_0); (try simp only [Nat.reduceMul, Nat.zero_mul, Nat.zero_add, Nat.reduceAdd] at hf8_0); replace p8 := eq_true p8; replace q8 := eq_true q8; obtain ⟨hy17_, hz17_⟩ := Kd.R_celln 0 HO360.out (9 : Int) (by omega) (of_decide_eq_true (by first | (with_reducible assumption) | assumption)); (try simp only [Int.reduceToNat, Int.toNat_zero, Int.toNat_ofNat, Nat.reduceMul, Nat.zero_mul, Nat.zero_add] at hy17_ hz17_); (try rw [show ((9 : Int)).toNat = 9 from rfl] at hy17_); (try rw [show ((9 : Int)).toNat = 9 from rfl] at hz17_); have HP17 := Kd.R_putg HO360.out (9 : Int) 0) | ((with_reducible refine gate_store (t := 5) (p := 35) rfl ?_); (try (rw [drewN_self w16]; generalize hq_ : World.drewN w16 _ = w16; have n0_ := Aside0.mk (Kd.R_at hq_ HO360.out); have n1_ := Aside0.mk (below_at hq_ HB.out); clear hq_ HO360 HB; have HO360 := n0_; have HB := n1_; clear n0_ n1_; (try (obtain ⟨hy17_, hz17_⟩ := Kd.R_celln 0 HO360.out (9 : Int) (by omega) (of_decide_eq_true (by first | (with_reducible assumption) | assumption)))); (try (try simp only [Int.reduceToNat, Int.toNat_zero, Int.toNat_ofNat, Nat.reduceMul, Nat.zero_mul, Nat.zero_add] at hy17_ hz17_)); (try (try rw [show ((9 : Int)).toNat = 9 from rfl] at hy17_)); (try (try rw [show ((9 : Int)).toNat = 9 from rfl] at hz17_)); (try (have HP17 := Kd.R_putg HO360.out (9 : Int) 0)))); refine store_event (t := 5) (p := 35) (v := ?vo_w18) (w1 := (w16.setCell ⟨go6, (9 : Int).toNat, none⟩ (.int .u8 0))) ?hg ?ho ?hn ?hr ?_; (case ho => rfl); (case hg => rfl); (case hn => rfl); (case hr => first | (go_simp; done) | (go_simp; rfl)); intro w18 hw; have hg : w16.grownBy w18 (some go6) := (by rw [hw]; exact HP17.2); have hp_ : Kd.R (Kd.int .u8) 5 w18 w.heap.size (fun _ => True) (.slice (some ⟨go6, 0, none⟩) y358.length co12) y367 := (by rw [hw, Ny367.out]; exact HP17.1); clear HP17; have n0_ := Aside0.mk (hp_); have n1_ := Aside0.mk ((by rw [hw]; exact below_set (HB.out) GB6.out : Below w.heap.size w w18)); clear HO360; clear HB; have HO360 := n0_; have HB := n1_; clear n0_ n1_; clear hg hw hp_)); try go_wp2_with (first | ((with_reducible refine gate_dst (N := 6) rfl ?_); refine Kd.R_lit (Kd.int .u8) _ 5 ?hg (N := 6) ?hd (xs := ([] : List Int)) (inner := []) (ok := fun _ => True) (okp := fun _ => True) ?hr ?hp (fun _ hk => hk) trivial (Below.refl _ _) (Nat.le_refl _) (by simp) ?_; (case hd => rfl); (case hg => rfl); (case hr => first | (go_simp; done) | (go_simp; rfl)); (case hp => exact (Reps.none _ _)); intro v356 w9 ho10 hb hg_ hnew_; clear hg_ hnew_; (first | rw [← Ny355.out] at ho10 | (simp only [Int.reduceToNat] at ho10; rw [← Ny355.out] at ho10)); have n0_ := Aside0.mk (Kd.R_lower ho10 (below_size (by repeat (first | (with_reducible first | exact HB.out | apply below_alloc | apply pw_below_drewN | apply below_drew1) | exact HB.out)))); have n1_ := Aside0.mk (below_step (by repeat (first | (with_reducible first | exact HB.out | apply below_alloc | apply pw_below_drewN | apply below_drew1) | exact HB.out)) hb); clear HB; have HO357 := n0_; have HB := n1_; clear n0_ n1_; clear hb ho10) | ((with_reducible refine gate_builtin (b := .append) (xs := #[.tmp 6, .tmp 7]) rfl ?_); at_builtin; refine Kd.R_append_rows (Kd.int .u8) (w0 := w) w.heap.size rfl (.tmp 6) (.tmp 7) 22 5 (.int .u8 0) 1 rfl Tryd.underlying22 info5 rfl (by decide) (by omega) v356 y355 l0 _ _ _ (fun _ => True) (fun _ => False) rfl rfl ?aO ?aR (fun _ _ h => h) (fun _ h => h.elim) ?aF ?aB ?aS ?aL ?_; (case aR => repeat (first | exact (Kd.C_below HR0.out HB.out) | (with_reducible refine Kd.C_alloc ?_ _) | (with_reducible refine Kd.C_drewN ?_ _) | (with_reducible refine Kd.C_drew ?_))); (case aB => exact (by repeat (first | (with_reducible first | exact HB.out | apply below_alloc | apply pw_below_drewN | apply below_drew1) | exact HB.out))); (case aF => exact (fun _ _ => trivial)); (case aO => exact (by (with_reducible repeat (first | apply Kd.R_alloc | apply Kd.R_drewN | apply Kd.R_drew)); exact HO357.out)); (case aS => exact (below_size (by repeat (first | (with_reducible first | exact HB.out | apply below_alloc | apply pw_below_drewN | apply below_drew1) | exact HB.out)))); (case aL => have := LMc2.out; omega); intro v359 w11 ho hb hg hat; rw [← Ny358.out] at ho; have n0_ := Aside0.mk (hb); have n1_ := Aside0.mk (ho); clear HB; clear HO357; have HB := n0_; have HO360 := n1_; clear n0_ n1_; clear ho hb hg hat; obtain ⟨Ao12, co12, eo12⟩ := Kd.R_slice HO360.out; subst eo12; have p361 : 0 ≤ (7 : Int) := (by omega); have q361 : 7 < (y358.length : Int) := of_decide_eq_true (by first | (with_reducible assumption) | assumption); obtain ⟨ad361, e361, hx361_0⟩ := Kd.at_int (Kd.R_reads' HO360.out).2.2 7 p361 q361; cases e361; (try simp only [show (7 : Int).toNat = 7 from rfl, Nat.reduceMul, Nat.reduceEqDiff, Go.Addr.add, ↓reduceIte] at hx361_0); have qi361 : (7 < y358.length) = True := eq_true (by omega); (try rw [show ((7 : Int)).toNat = 7 from rfl] at hx361_0); replace p361 := eq_true p361; replace q361 := eq_true q361; have p362 : 0 ≤ (8 : Int) := (by omega); have q362 : 8 < (y358.length : Int) := of_decide_eq_true (by first | (with_reducible assumption) | assumption); obtain ⟨ad362, e362, hx362_0⟩ := Kd.at_int (Kd.R_reads' HO360.out).2.2 8 p362 q362; obtain rfl : ad361 = ad362 := (by injection e362); (try simp only [show (8 : Int).toNat = 8 from rfl, Nat.reduceMul, Nat.reduceEqDiff, Go.Addr.add, ↓reduceIte] at hx362_0); have qi362 : (8 < y358.length) = True := eq_true (by omega); (try rw [show ((8 : Int)).toNat = 8 from rfl] at hx362_0); replace p362 := eq_true p362; replace q362 := eq_true q362; have p363 : 0 ≤ (9 : Int) := (by omega); have q363 : 9 < (y358.length : Int) := of_decide_eq_true (by first | (with_reducible assumption) | assumption); obtain ⟨ad363, e363, hx363_0⟩ := Kd.at_int (Kd.R_reads' HO360.out).2.2 9 p363 q363; obtain rfl : ad361 = ad363 := (by injection e363); (try simp only [show (9 : Int).toNat = 9 from rfl, Nat.reduceMul, Nat.reduceEqDiff, Go.Addr.add, ↓reduceIte] at hx363_0); have qi363 : (9 < y358.length) = True := eq_true (by omega); (try rw [show ((9 : Int)).toNat = 9 from rfl] at hx363_0); replace p363 := eq_true p363; replace q363 := eq_true q363; have p364 : 0 ≤ (7 : Int) := (by omega); have q364 : 7 < (y358.length : Int) := of_decide_eq_true (by first | (with_reducible assumption) | assumption); obtain ⟨ad364, e364, hx364_0⟩ := Kd.at_int (Kd.R_reads' HO360.out).2.2 7 p364 q364; obtain rfl : ad361 = ad364 := (by injection e364); (try simp only [show (7 : Int).toNat = 7 from rfl, Nat.reduceMul, Nat.reduceEqDiff, Go.Addr.add, ↓reduceIte] at hx364_0); have qi364 : (7 < y358.length) = True := eq_true (by omega); (try rw [show ((7 : Int)).toNat = 7 from rfl] at hx364_0); replace p364 := eq_true p364; replace q364 := eq_true q364; have p6 : 0 ≤ (7 : Int) := (by omega); have q6 : (7 : Int) < ((y358.length : Int) : Int) := of_decide_eq_true (by first | (with_reducible assumption) | assumption); have qi6 : (7 < y358.length) = True := eq_true (by omega); obtain ⟨go6, co6, eo6, gb6, gl6, cl6, HG6⟩ := Kd.R_form HO360.out (by omega); (first | cases eo6 | (injection eo6 with ea_ en_ ec_; (first | subst ea_ | (injection ea_ with ea_; subst ea_)); subst ec_; clear en_)); have GB6 := Aside0.mk gb6; have GG6 := Aside0.mk HG6; clear gb6 gl6 HG6; (first | simp only [add_plain] at hx361_0 | skip); (first | simp only [add_plain] at hx362_0 | skip); (first | simp only [add_plain] at hx363_0 | skip); (first | simp only [add_plain] at hx364_0 | skip); obtain ⟨hx6_0, hf6_0⟩ := Kd.R_celln 0 HO360.out (7 : Int) p6 q6; (try rw [show ((7 : Int)).toNat = 7 from rfl] at hx6_0); (try simp only [Nat.reduceMul, Nat.zero_mul, Nat.zero_add, Nat.reduceAdd] at hx6_0); (try rw [show ((7 : Int)).toNat = 7 from rfl] at hf6_0); (try simp only [Nat.reduceMul, Nat.zero_mul, Nat.zero_add, Nat.reduceAdd] at hf6_0); replace p6 := eq_true p6; replace q6 := eq_true q6; obtain ⟨hy13_, hz13_⟩ := Kd.R_celln 0 HO360.out (7 : Int) (by omega) (of_decide_eq_true (by first | (with_reducible assumption) | assumption)); (try simp only [Int.reduceToNat, Int.toNat_zero, Int.toNat_ofNat, Nat.reduceMul, Nat.zero_mul, Nat.zero_add] at hy13_ hz13_); (try rw [show ((7 : Int)).toNat = 7 from rfl] at hy13_); (try rw [show ((7 : Int)).toNat = 7 from rfl] at hz13_); have HP13 := Kd.R_putg HO360.out (7 : Int) (Go.bits .andNot .u8 (rd y358 7) 31)) | ((with_reducible refine gate_store (t := 5) (p := 33) rfl ?_); (try (rw [drewN_self w11]; generalize hq_ : World.drewN w11 _ = w11; have n0_ := Aside0.mk (Kd.R_at hq_ HO360.out); have n1_ := Aside0.mk (below_at hq_ HB.out); clear hq_ HO360 HB; have HO360 := n0_; have HB := n1_; clear n0_ n1_; (try (obtain ⟨hy13_, hz13_⟩ := Kd.R_celln 0 HO360.out (7 : Int) (by omega) (of_decide_eq_true (by first | (with_reducible assumption) | assumption)))); (try (try simp only [Int.reduceToNat, Int.toNat_zero, Int.toNat_ofNat, Nat.reduceMul, Nat.zero_mul, Nat.zero_add] at hy13_ hz13_)); (try (try rw [show ((7 : Int)).toNat = 7 from rfl] at hy13_)); (try (try rw [show ((7 : Int)).toNat = 7 from rfl] at hz13_)); (try (have HP13 := Kd.R_putg HO360.out (7 : Int) (Go.bits .andNot .u8 (rd y358 7) 31))))); refine store_event (t := 5) (p := 33) (v := ?vo_w14) (w1 := (w11.setCell ⟨go6, (7 : Int).toNat, none⟩ (.int .u8 (Go.bits .andNot .u8 (rd y358 7) 31)))) ?hg ?ho ?hn ?hr ?_; (case ho => rfl); (case hg => rfl); (case hn => rfl); (case hr => first | (go_simp; done) | (go_simp; rfl)); intro w14 hw; have hg : w11.grownBy w14 (some go6) := (by rw [hw]; exact HP13.2); have hp_ : Kd.R (Kd.int .u8) 5 w14 w.heap.size (fun _ => True) (.slice (some ⟨go6, 0, none⟩) y358.length co12) y365 := (by rw [hw, Ny365.out]; exact HP13.1); clear HP13; have n0_ := Aside0.mk (hp_); have n1_ := Aside0.mk ((by rw [hw]; exact below_set (HB.out) GB6.out : Below w.heap.size w w14)); clear HO360; clear HB; have HO360 := n0_; have HB := n1_; clear n0_ n1_; clear hg hw hp_; have p7 : 0 ≤ (8 : Int) := (by omega); have q7 : (8 : Int) < ((y358.length : Int) : Int) := of_decide_eq_true (by first | (with_reducible assumption) | assumption); have qi7 : (8 < y358.length) = True := eq_true (by omega); obtain ⟨hx7_0, hf7_0⟩ := Kd.R_celln 0 HO360.out (8 : Int) p7 q7; (try rw [show ((8 : Int)).toNat = 8 from rfl] at hx7_0); (try simp only [Nat.reduceMul, Nat.zero_mul, Nat.zero_add, Nat.reduceAdd] at hx7_0); (try rw [show ((8 : Int)).toNat = 8 from rfl] at hf7_0); (try simp only [Nat.reduceMul, Nat.zero_mul, Nat.zero_add, Nat.reduceAdd] at hf7_0); replace p7 := eq_true p7; replace q7 := eq_true q7; obtain ⟨hy15_, hz15_⟩ := Kd.R_celln 0 HO360.out (8 : Int) (by omega) (of_decide_eq_true (by first | (with_reducible assumption) | assumption)); (try simp only [Int.reduceToNat, Int.toNat_zero, Int.toNat_ofNat, Nat.reduceMul, Nat.zero_mul, Nat.zero_add] at hy15_ hz15_); (try rw [show ((8 : Int)).toNat = 8 from rfl] at hy15_); (try rw [show ((8 : Int)).toNat = 8 from rfl] at hz15_); have HP15 := Kd.R_putg HO360.out (8 : Int) 0) | ((with_reducible refine gate_store (t := 5) (p := 34) rfl ?_); (try (rw [drewN_self w14]; generalize hq_ : World.drewN w14 _ = w14; have n0_ := Aside0.mk (Kd.R_at hq_ HO360.out); have n1_ := Aside0.mk (below_at hq_ HB.out); clear hq_ HO360 HB; have HO360 := n0_; have HB := n1_; clear n0_ n1_; (try (obtain ⟨hy15_, hz15_⟩ := Kd.R_celln 0 HO360.out (8 : Int) (by omega) (of_decide_eq_true (by first | (with_reducible assumption) | assumption)))); (try (try simp only [Int.reduceToNat, Int.toNat_zero, Int.toNat_ofNat, Nat.reduceMul, Nat.zero_mul, Nat.zero_add] at hy15_ hz15_)); (try (try rw [show ((8 : Int)).toNat = 8 from rfl] at hy15_)); (try (try rw [show ((8 : Int)).toNat = 8 from rfl] at hz15_)); (try (have HP15 := Kd.R_putg HO360.out (8 : Int) 0)))); refine store_event (t := 5) (p := 34) (v := ?vo_w16) (w1 := (w14.setCell ⟨go6, (8 : Int).toNat, none⟩ (.int .u8 0))) ?hg ?ho ?hn ?hr ?_; (case ho => rfl); (case hg => rfl); (case hn => rfl); (case hr => first | (go_simp; done) | (go_simp; rfl)); intro w16 hw; have hg : w14.grownBy w16 (some go6) := (by rw [hw]; exact HP15.2); have hp_ : Kd.R (Kd.int .u8) 5 w16 w.heap.size (fun _ => True) (.slice (some ⟨go6, 0, none⟩) y358.length co12) y366 := (by rw [hw, Ny366.out]; exact HP15.1); clear HP15; have n0_ := Aside0.mk (hp_); have n1_ := Aside0.mk ((by rw [hw]; exact below_set (HB.out) GB6.out : Below w.heap.size w w16)); clear HO360; clear HB; have HO360 := n0_; have HB := n1_; clear n0_ n1_; clear hg hw hp_; have p8 : 0 ≤ (9 : Int) := (by omega); have q8 : (9 : Int) < ((y358.length : Int) : Int) := of_decide_eq_true (by first | (with_reducible assumption) | assumption); have qi8 : (9 < y358.length) = True := eq_true (by omega); obtain ⟨hx8_0, hf8_0⟩ := Kd.R_celln 0 HO360.out (9 : Int) p8 q8; (try rw [show ((9 : Int)).toNat = 9 from rfl] at hx8_0); (try simp only [Nat.reduceMul, Nat.zero_mul, Nat.zero_add, Nat.reduceAdd] at hx8_0); (try rw [show ((9 : Int)).toNat = 9 from rfl] at hf8_0); (try simp only [Nat.reduceMul, Nat.zero_mul, Nat.zero_add, Nat.reduceAdd] at hf8_0); replace p8 := eq_true p8; replace q8 := eq_true q8; obtain ⟨hy17_, hz17_⟩ := Kd.R_celln 0 HO360.out (9 : Int) (by omega) (of_decide_eq_true (by first | (with_reducible assumption) | assumption)); (try simp only [Int.reduceToNat, Int.toNat_zero, Int.toNat_ofNat, Nat.reduceMul, Nat.zero_mul, Nat.zero_add] at hy17_ hz17_); (try rw [show ((9 : Int)).toNat = 9 from rfl] at hy17_); (try rw [show ((9 : Int)).toNat = 9 from rfl] at hz17_); have HP17 := Kd.R_putg HO360.out (9 : Int) 0) | ((with_reducible refine gate_store (t := 5) (p := 35) rfl ?_); (try (rw [drewN_self w16]; generalize hq_ : World.drewN w16 _ = w16; have n0_ := Aside0.mk (Kd.R_at hq_ HO360.out); have n1_ := Aside0.mk (below_at hq_ HB.out); clear hq_ HO360 HB; have HO360 := n0_; have HB := n1_; clear n0_ n1_; (try (obtain ⟨hy17_, hz17_⟩ := Kd.R_celln 0 HO360.out (9 : Int) (by omega) (of_decide_eq_true (by first | (with_reducible assumption) | assumption)))); (try (try simp only [Int.reduceToNat, Int.toNat_zero, Int.toNat_ofNat, Nat.reduceMul, Nat.zero_mul, Nat.zero_add] at hy17_ hz17_)); (try (try rw [show ((9 : Int)).toNat = 9 from rfl] at hy17_)); (try (try rw [show ((9 : Int)).toNat = 9 from rfl] at hz17_)); (try (have HP17 := Kd.R_putg HO360.out (9 : Int) 0)))); refine store_event (t := 5) (p := 35) (v := ?vo_w18) (w1 := (w16.setCell ⟨go6, (9 : Int).toNat, none⟩ (.int .u8 0))) ?hg ?ho ?hn ?hr ?_; (case ho => rfl); (case hg => rfl); (case hn => rfl); (case hr => first | (go_simp; done) | (go_simp; rfl)); intro w18 hw; have hg : w16.grownBy w18 (some go6) := (by rw [hw]; exact HP17.2); have hp_ : Kd.R (Kd.int .u8) 5 w18 w.heap.size (fun _ => True) (.slice (some ⟨go6, 0, none⟩) y358.length co12) y367 := (by rw [hw, Ny367.out]; exact HP17.1); clear HP17; have n0_ := Aside0.mk (hp_); have n1_ := Aside0.mk ((by rw [hw]; exact below_set (HB.out) GB6.out : Below w.heap.size w w18)); clear HO360; clear HB; have HO360 := n0_; have HB := n1_; clear n0_ n1_; clear hg hw hp_)))
          go_ret2
          exact ⟨_, by first | rfl | (simp [errW_none, errW_some] <;> rfl) | (simp [*, errW_none, errW_some] <;> rfl), by (with_reducible repeat (first | apply Kd.R_alloc | apply Kd.R_drewN | apply Kd.R_drew)); exact HO360.out, by repeat (first | (with_reducible first | exact HB.out | apply below_alloc | apply pw_below_drewN | apply below_drew1) | exact HB.out)⟩
        · rw [if_neg c5] at H
          exact absurd H (by simp)
      · rw [if_neg c4] at H
        exact absurd H (by simp)
    · rw [if_neg c3] at H
      exact absurd H (by simp)
  · rw [if_neg c2] at H
    exact absurd H (by simp)

end Go.Proofs.YtbjlpdfhjapbkaaDoor.P
