-- Written by a program of this session (a scratch copy of the print with functions taken as proved): Lean checks it.
import Derived.Test.YtbjlpdfhjapbkaaDoorProg
import Derived.Below
import Derived.Deep.Draws
import Derived.Deep.AppendLies
import Derived.Maps.AppendAt
import Derived.OwnWalk
import Derived.Laws.BytesArg
import Derived.Laws.MakeOwn
import Derived.Laws.OwnMore
import Derived.Deep.OwnRows
import Derived.Tactics
import Derived.Lib.ConvBytes
import Derived.Laws.Slices
import Derived.WalkKit
import Derived.KernelRfl
import Derived.RowKit3
import Derived.Deep.LoopGhost
import Derived.Deep.QuietTactic
import Derived.BigQuiet
import Derived.WideLaws
import Derived.Deep.DeepCutAuto
import Derived.Deep.CutBlock
import Derived.Deep.RegionHeld3
import Derived.Laws.Rows
import Derived.Lib.AppendStr
import Derived.ArgAppend
import Derived.Laws.IdiomCopy
import Derived.OrdersHeld
import Derived.Laws.BitsLemmas
import Derived.RowKit
import Derived.Test.YtbjlpdfhjapbkaaDoorWWords
import Derived.Test.YtbjlpdfhjapbkaaDoorWLast
import Derived.Test.YtbjlpdfhjapbkaaDoorWTab
import Derived.Test.YtbjlpdfhjapbkaaDoorWApart
import Derived.Test.YtbjlpdfhjapbkaaDoorWArr
import Derived.Test.YtbjlpdfhjapbkaaDoorWFoot
import Derived.Test.YtbjlpdfhjapbkaaDoorWKept
import Derived.Test.YtbjlpdfhjapbkaaDoorWShare
import Derived.Test.YtbjlpdfhjapbkaaDoorWN
import Derived.Test.YtbjlpdfhjapbkaaDoorWFootNe
import Derived.Test.YtbjlpdfhjapbkaaDoorWAt
import Derived.Test.YtbjlpdfhjapbkaaDoorWRepsOne
import Derived.Test.YtbjlpdfhjapbkaaDoorWGuard
import Derived.Test.YtbjlpdfhjapbkaaDoorWMore
import Derived.Test.YtbjlpdfhjapbkaaDoorParP
namespace Go.Proofs.YtbjlpdfhjapbkaaDoor.LPar
open Go.RowKit Go.Proofs.YtbjlpdfhjapbkaaDoorW.PrintWords Go.Proofs.YtbjlpdfhjapbkaaDoorW.PrintLast Go.Proofs.YtbjlpdfhjapbkaaDoorW.PrintMore
attribute [local go_sem] max2_int min2_int max_two min_two max_three min_three max_four min_four   -- for this text's walks alone
set_option linter.unusedVariables false
set_option linter.unusedSimpArgs false



def errW : Option Int → Value
  | none => .nilIface
  | some c => .iface 0 (.int .i64 c)
theorem errW_none : errW none = .nilIface := rfl
theorem errW_some (c : Int) : errW (some c) = .iface 0 (.int .i64 c) := rfl

theorem info5 : (Tryd.prog.info? 5).map (fun i => (i.zero, i.size, i.bytes)) = some (some (.int .u8 0), 1, 1) := by kernel_rfl
-- the values' own types
/-! ### laws_cut: function 12 -/
def laws_cut.l0 : Nat → List Int → Int → List Int → Int → Int → Option (List Int)
  | 0, _, _, _, _, _ => none
  | k + 1, x0, x1, x7, x12, x13 => if x13 < x12 then (if (wrap64 (x1 + x13)) < (x0.length : Int) then (if 0 ≤ (wrap64 (x1 + x13)) then (if 0 ≤ x13 then (if x13 < (x7.length : Int) then (laws_cut.l0 k x0 x1 (x7.set (x13 : Int).toNat (rd x0 (wrap64 (x1 + x13)))) x12 (wrap64 (x13 + 1))) else (none)) else (none)) else (none)) else (laws_cut.l0 k x0 x1 x7 x12 (wrap64 (x13 + 1)))) else (some x7)
def laws_cut.f (k : Nat) (l0 : List Int) (a1 : Int) (a2 : Int) : Option (List Int) := if 0 ≤ a2 then (if (a2 : Int).toNat ≤ 281474976710656 then ((some (List.replicate (a2 : Int).toNat 0 : List Int)).bind fun y101 => (laws_cut.l0 k l0 a1 y101 (y101.length : Int) 0)) else (none)) else (none)
theorem laws_cut.mono_l : ∀ k, (∀ y0 y1 y2 y3 y4, LeO (laws_cut.l0 k y0 y1 y2 y3 y4) (laws_cut.l0 (k + 1) y0 y1 y2 y3 y4))
  | 0 => fun _ _ _ _ _ r h => by simp [laws_cut.l0] at h
  | k + 1 => by
    have ih0 := laws_cut.mono_l k
    · intro y0 y1 y2 y3 y4
      unfold laws_cut.l0
      repeat' first
      | (with_reducible exact ih0 _ _ _ _ _)
      | (with_reducible exact LeO.refl _)
      | (with_reducible exact LeO.none _)
      | (with_reducible refine LeO.ite ?_ ?_)
      | (with_reducible refine LeO.bind ?_ (fun _ => ?_))
      | exact ih0 _ _ _ _ _
      | exact LeO.none _
      | refine LeO.ite ?_ ?_
      | refine LeO.bind ?_ (fun _ => ?_)
theorem laws_cut.mono : ∀ a0 a1 a2 k, LeO (laws_cut.f k a0 a1 a2) (laws_cut.f (k + 1) a0 a1 a2) := by
  intro a0 a1 a2 k
  have ih0 := laws_cut.mono_l k
  unfold laws_cut.f
  repeat' first
      | (with_reducible exact ih0 _ _ _ _ _)
      | (with_reducible exact LeO.refl _)
      | (with_reducible exact LeO.none _)
      | (with_reducible refine LeO.ite ?_ ?_)
      | (with_reducible refine LeO.bind ?_ (fun _ => ?_))
      | exact ih0 _ _ _ _ _
      | exact LeO.none _
      | refine LeO.ite ?_ ?_
      | refine LeO.bind ?_ (fun _ => ?_)
set_option maxHeartbeats 8000000 in
set_option maxRecDepth 100000 in
theorem laws_cut.calls (k : Nat) (A0 : Option Addr) (c0 : Nat) (l0 : List Int) (a1 : Int) (a2 : Int) (r : List Int) (w : World) (hr0 : Kd.C (Kd.int .u8) w A0 l0.length l0) (hc0 : l0.length ≤ c0) (h : laws_cut.f k l0 a1 a2 = some r) :
    Calls Tryd.prog 12 #[.slice A0 l0.length c0, .int .i64 a1, .int .i64 a2] w fun e w' => ∃ v0_ : Value, e = .returned (v0_) ∧ Kd.R (Kd.int .u8) 5 w' w.heap.size (fun _ => True) v0_ r ∧ Below w.heap.size w w' := by
  have HR0 := Aside0.mk hr0
  have HC0 := Aside0.mk hc0
  clear hr0 hc0
  have HB := Aside0.mk (Below.refl w.heap.size w)
  have H : (if 0 ≤ a2 then (if (a2 : Int).toNat ≤ 281474976710656 then ((some (List.replicate (a2 : Int).toNat 0 : List Int)).bind fun y101 => (laws_cut.l0 k l0 a1 y101 (y101.length : Int) 0)) else (none)) else (none)) = some r := h
  clear h
  by_cases c4 : 0 ≤ a2
  · rw [if_pos c4] at H
    have c4b0 := eq_true c4
    have c4b1 : decide (0 ≤ a2) = true := decide_eq_true c4
    clear c4
    by_cases c5 : (a2 : Int).toNat ≤ 281474976710656
    · rw [if_pos c5] at H
      have c5b0 := eq_true c5
      have c5b1 : decide ((a2 : Int).toNat ≤ 281474976710656) = true := decide_eq_true c5
      clear c5
      obtain ⟨y101, hy101⟩ : ∃ y_ : List Int, y_ = (List.replicate (a2 : Int).toNat 0) := ⟨_, rfl⟩
      replace H : (laws_cut.l0 k l0 a1 y101 (y101.length : Int) 0) = some r := by first | (rw [hy101]; with_reducible exact H) | (have H2_ := (Option.bind_some _ _).symm.trans H; rw [hy101]; with_reducible exact H2_) | (have H2_ := (Option.bind_some _ _).symm.trans H; with_reducible exact H2_) | with_reducible exact H | (rw [hy101]; exact H) | exact H
      have Ny101 := Aside0.mk hy101
      clear hy101
      have H' := Aside0.mk H
      clear H
      go_enter Tryd.func12, Tryd.ntmps12
      go_wp2_with (first | ((with_reducible refine gate_dst (N := 10) rfl ?_); refine Kd.R_make (Kd.int .u8) _ 5 rfl (N := 10) rfl 22 _ _ rfl a2 rfl rfl Tryd.underlying22 (.int .u8 0) 1 info5 rfl (by decide) (by omega) 0 (ok := fun _ => True) (okp := fun _ => True) rfl (fun _ hk => hk) trivial (of_decide_eq_true (by first | (with_reducible assumption) | assumption)) (Nat.le_trans (Nat.mul_le_mul_right _ (of_decide_eq_true (by first | (with_reducible assumption) | assumption) : a2.toNat ≤ 281474976710656)) (by omega)) (Below.refl _ _) (Nat.le_refl _) ?_; intro v102 w6 ho7 hb hg_ hnew_; clear hg_ hnew_; (first | rw [← Ny101.out] at ho7 | (simp only [Int.reduceToNat] at ho7; rw [← Ny101.out] at ho7)); have n0_ := Aside0.mk (Kd.R_lower ho7 (below_size (by repeat (first | (with_reducible first | exact HB.out | apply below_alloc | apply pw_below_drewN | apply below_drew1) | exact HB.out)))); have n1_ := Aside0.mk (below_step (by repeat (first | (with_reducible first | exact HB.out | apply below_alloc | apply pw_below_drewN | apply below_drew1) | exact HB.out)) hb); clear HB; have HO103 := n0_; have HB := n1_; clear n0_ n1_; clear hb ho7; obtain ⟨Ao8, co8, eo8⟩ := Kd.R_slice HO103.out; subst eo8))
      go_loopg [13] k (fun kq v13 w' => ∃ (x7_1 : List Int) (x13_1 : Int), v13 = .int .i64 x13_1 ∧ Aside0 (laws_cut.l0 kq l0 a1 x7_1 (y101.length : Int) x13_1 = some r) ∧ Aside0 (kq ≤ k) ∧ Aside0 (Kd.R (Kd.int .u8) 5 w' w.heap.size (fun _ => True) (.slice Ao8 y101.length co8) x7_1) ∧ Aside0 (Below w.heap.size w w'))
      case atStart => exact ⟨(y101), (0), (by first | rfl | (simp; done) | (simp [*]; done)), H', ⟨Nat.le_refl _⟩, ⟨by (with_reducible repeat (first | apply Kd.R_alloc | apply Kd.R_drewN | apply Kd.R_drew)); exact HO103.out⟩, ⟨by repeat (first | (with_reducible first | exact HB.out | apply below_alloc | apply pw_below_drewN | apply below_drew1) | exact HB.out)⟩⟩
      case round =>
        clear H'
        try clear c1
        try clear p2
        try clear c4
        try clear c4b0
        try clear c4b1
        try clear c5
        try clear c5b0
        try clear c5b1
        obtain ⟨x7_1, x13_1, rfl, HA, HK1, HO_7, HB⟩ := hrel
        have hl7_1 := (Kd.R_reads' HO_7.out).1
        rw [hl7_1] at HO_7
        (try simp only [hl7_1])
        cases gk with
        | zero => exact absurd HA.out (by simp [laws_cut.l0])
        | succ k1 =>
          have H := HA.out
          clear HA
          simp only [laws_cut.l0] at H
          by_cases c9 : x13_1 < (y101.length : Int)
          · rw [if_pos c9] at H
            have c9b0 : decide (x13_1 < (y101.length : Int)) = true := decide_eq_true c9
            clear c9
            by_cases c10 : (wrap64 (a1 + x13_1)) < (l0.length : Int)
            · rw [if_pos c10] at H
              have c10b0 : decide ((wrap64 (a1 + x13_1)) < (l0.length : Int)) = true := decide_eq_true c10
              clear c10
              obtain ⟨ji11, hji11⟩ : ∃ j_ : Int, (wrap64 (a1 + x13_1)) = j_ := ⟨_, rfl⟩
              replace H : (if 0 ≤ (ji11) then (if 0 ≤ x13_1 then (if x13_1 < (x7_1.length : Int) then (laws_cut.l0 k1 l0 a1 (x7_1.set (x13_1 : Int).toNat (rd l0 (ji11))) (y101.length : Int) (wrap64 (x13_1 + 1))) else (none)) else (none)) else (none)) = some r := by first | (rw [hji11] at H; exact H) | (simp only [hji11] at H ⊢; exact H)
              (try rw [hji11] at c10b0)
              have hji11w : (IntKind.i64.wrap (a1 + x13_1)) = ji11 := (i64_w _).trans hji11
              by_cases c12 : 0 ≤ (ji11)
              · rw [if_pos c12] at H
                have c12b0 : decide (0 ≤ (ji11)) = true := decide_eq_true c12
                clear c12
                by_cases c13 : 0 ≤ x13_1
                · rw [if_pos c13] at H
                  have c13b0 : decide (0 ≤ x13_1) = true := decide_eq_true c13
                  clear c13
                  by_cases c14 : x13_1 < (x7_1.length : Int)
                  · rw [if_pos c14] at H
                    have c14b0 : decide (x13_1 < (x7_1.length : Int)) = true := decide_eq_true c14
                    clear c14
                    obtain ⟨y105, hy105⟩ : ∃ y_ : List Int, y_ = (x7_1.set (x13_1 : Int).toNat (rd l0 (ji11))) := ⟨_, rfl⟩
                    replace H : (laws_cut.l0 k1 l0 a1 y105 (y101.length : Int) (wrap64 (x13_1 + 1))) = some r := by first | (rw [hy105]; with_reducible exact H) | (have H2_ := (Option.bind_some _ _).symm.trans H; rw [hy105]; with_reducible exact H2_) | (have H2_ := (Option.bind_some _ _).symm.trans H; with_reducible exact H2_) | with_reducible exact H | (rw [hy105]; exact H) | exact H
                    have Ny105 := Aside0.mk hy105
                    clear hy105
                    have H' := Aside0.mk H
                    clear H
                    have p104 : 0 ≤ ((ji11) : Int) := of_decide_eq_true (by first | (with_reducible assumption) | assumption)
                    have q104 : (ji11) < (l0.length : Int) := of_decide_eq_true (by first | (with_reducible assumption) | assumption)
                    obtain ⟨ad104, e104, hx104_0⟩ := Kd.at_int HR0.out (ji11) p104 q104
                    cases e104
                    replace hx104_0 := (HB.out.cell (World.block_lt_of_cell? w _ hx104_0)).trans hx104_0
                    replace p104 := eq_true p104
                    replace q104 := eq_true q104
                    have p15 : 0 ≤ (x13_1 : Int) := of_decide_eq_true (by first | (with_reducible assumption) | assumption)
                    have q15 : (x13_1 : Int) < ((x7_1.length : Int) : Int) := of_decide_eq_true (by first | (with_reducible assumption) | assumption)
                    obtain ⟨go15, co15, eo15, gb15, gl15, cl15, HG15⟩ := Kd.R_form HO_7.out (by omega)
                    (first | cases eo15 | (injection eo15 with ea_ en_ ec_; (first | subst ea_ | (injection ea_ with ea_; subst ea_)); subst ec_; clear en_))
                    have GB15 := Aside0.mk gb15
                    have GG15 := Aside0.mk HG15
                    clear gb15 gl15 HG15
                    obtain ⟨hx15_0, hf15_0⟩ := Kd.R_celln 0 HO_7.out (x13_1 : Int) p15 q15
                    replace p15 := eq_true p15
                    replace q15 := eq_true q15
                    have HP16 := Kd.R_putg HO_7.out (x13_1 : Int) (rd l0 (ji11))
                    go_wp2_with (first | ((with_reducible refine gate_store (t := 5) (p := 30) rfl ?_); refine store_event (t := 5) (p := 30) (v := ?vo_w17) (w1 := (wr.setCell ⟨go15, (x13_1 : Int).toNat, none⟩ (.int .u8 (rd l0 (ji11))))) ?hg ?ho ?hn ?hr ?_; (case ho => rfl); (case hg => rfl); (case hn => rfl); (case hr => first | (go_simp; done) | (go_simp; rfl)); intro w17 hw; have hg : wr.grownBy w17 (some go15) := (by rw [hw]; exact HP16.2); have hp_ : Kd.R (Kd.int .u8) 5 w17 w.heap.size (fun _ => True) (.slice (some ⟨go15, 0, none⟩) x7_1.length co8) y105 := (by rw [hw, Ny105.out]; exact HP16.1); clear HP16; have n0_ := Aside0.mk (hp_); have n1_ := Aside0.mk ((by rw [hw]; exact below_set (HB.out) GB15.out : Below w.heap.size w w17)); clear HO_7; clear HB; have HO_7 := n0_; have HB := n1_; clear n0_ n1_; clear hg hw hp_))
                    (try simp only [← hl7_1])
                    go_roundg k1
                    case measure => have := HK1.out; omega
                    case rel => exact ⟨(y105), (wrap64 (x13_1 + 1)), (by first | rfl | (simp; done) | (simp [*]; done)), H', ⟨by have := HK1.out; omega⟩, ⟨by (try simp only [hl7_1]); (with_reducible repeat (first | apply Kd.R_alloc | apply Kd.R_drewN | apply Kd.R_drew)); exact HO_7.out⟩, ⟨by repeat (first | (with_reducible first | exact HB.out | apply below_alloc | apply pw_below_drewN | apply below_drew1) | exact HB.out)⟩⟩
                  · rw [if_neg c14] at H
                    exact absurd H (by simp)
                · rw [if_neg c13] at H
                  exact absurd H (by simp)
              · rw [if_neg c12] at H
                exact absurd H (by simp)
            · rw [if_neg c10] at H
              have c10b0 : decide ((wrap64 (a1 + x13_1)) < (l0.length : Int)) = false := decide_eq_false c10
              clear c10
              have H' := Aside0.mk H
              clear H
              have cx_ : decide (x13_1 < (x7_1.length : Int)) = true := by first | (rw [hl7_1]; exact c9b0) | (rw [← hl7_1]; exact c9b0) | (simp only [hl7_1]; exact c9b0)
              go_wp2
              (try simp only [← hl7_1])
              go_roundg k1
              case measure => have := HK1.out; omega
              case rel => exact ⟨(x7_1), (wrap64 (x13_1 + 1)), (by first | rfl | (simp; done) | (simp [*]; done)), H', ⟨by have := HK1.out; omega⟩, ⟨by (try simp only [hl7_1]); (with_reducible repeat (first | apply Kd.R_alloc | apply Kd.R_drewN | apply Kd.R_drew)); exact HO_7.out⟩, ⟨by repeat (first | (with_reducible first | exact HB.out | apply below_alloc | apply pw_below_drewN | apply below_drew1) | exact HB.out)⟩⟩
          · rw [if_neg c9] at H
            have c9b0 : decide (x13_1 < (y101.length : Int)) = false := decide_eq_false c9
            clear c9
            obtain rfl := Option.some.inj H
            have cx_ : decide (x13_1 < (x7_1.length : Int)) = false := by first | (rw [hl7_1]; exact c9b0) | (rw [← hl7_1]; exact c9b0) | (simp only [hl7_1]; exact c9b0)
            go_wp2
            go_ret
            exact ⟨_, by first | rfl | (simp [errW_none, errW_some] <;> rfl) | (simp [*, errW_none, errW_some] <;> rfl), by (with_reducible repeat (first | apply Kd.R_alloc | apply Kd.R_drewN | apply Kd.R_drew)); exact HO_7.out, by repeat (first | (with_reducible first | exact HB.out | apply below_alloc | apply pw_below_drewN | apply below_drew1) | exact HB.out)⟩
    · rw [if_neg c5] at H
      exact absurd H (by simp)
  · rw [if_neg c4] at H
    exact absurd H (by simp)

/-! ### laws_same: function 14 -/
def laws_same.f (l0 : List Int) (l1 : List Int) : Option (Bool) := some ((strOfNums l0).toList == (strOfNums l1).toList)
set_option maxHeartbeats 8000000 in
set_option maxRecDepth 100000 in
theorem laws_same.calls (A0 : Option Addr) (c0 : Nat) (l0 : List Int) (A1 : Option Addr) (c1 : Nat) (l1 : List Int) (r : Bool) (w : World) (hr0 : Kd.C (Kd.int .u8) w A0 l0.length l0) (hc0 : l0.length ≤ c0) (hr1 : Kd.C (Kd.int .u8) w A1 l1.length l1) (hc1 : l1.length ≤ c1) (h : laws_same.f l0 l1 = some r) :
    Calls Tryd.prog 14 #[.slice A0 l0.length c0, .slice A1 l1.length c1] w fun e w' => e = .returned (.bool r) ∧ Drawn0 w w' := by
  have HR0 := Aside0.mk hr0
  have HC0 := Aside0.mk hc0
  clear hr0 hc0
  have HR1 := Aside0.mk hr1
  have HC1 := Aside0.mk hc1
  clear hr1 hc1
  have H : (some ((strOfNums l0).toList == (strOfNums l1).toList)) = some r := h
  clear h
  obtain rfl := Option.some.inj H
  have hcv3 := Kd.C_string (P := Tryd.prog) (A := A0) (c := c0) Tryd.underlying22 Tryd.underlying5 Tryd.underlying9 HR0.out
  have hcv4 := Kd.C_string (P := Tryd.prog) (A := A1) (c := c1) Tryd.underlying22 Tryd.underlying5 Tryd.underlying9 HR1.out
  go_enter Tryd.func14, Tryd.ntmps14
  go_wp2
  go_ret
  exact ⟨by first | rfl | (simp; done) | (simp [*]; done), by repeat (first | exact Drawn0.refl _ | apply Drawn0.step)⟩

/-! ### laws_FnParity: function 3 -/
mutual
def laws_FnParity.j0 : Nat → List Int → List Int → List Int → List Int → Bool → Option (Bool)
  | 0, _, _, _, _, _ => none
  | k + 1, x0, x3, x4, x5, x27 => if x27 = true then (some false) else (if 8 ≤ (x3.length : Int) then ((impl_Des.f (x3.take 8) x4 false).bind fun t129 => (if (t129.length : Int) = 8 then (if 8 ≤ (x5.length : Int) then ((impl_Des.f (x5.take 8) x4 false).bind fun t136 => ((laws_same.f t129 t136).bind fun t139 => (laws_FnParity.j1 k x0 x3 x4 x5 t129 (!t139)))) else (none)) else (laws_FnParity.j1 k x0 x3 x4 x5 t129 true))) else (none))
def laws_FnParity.j1 : Nat → List Int → List Int → List Int → List Int → List Int → Bool → Option (Bool)
  | 0, _, _, _, _, _, _ => none
  | k + 1, x0, x3, x4, x5, x6, x43 => if x43 = true then (some false) else ((impl_Tdea.f x3 x4 true).bind fun t140 => (if (t140.length : Int) = 8 then ((impl_Tdea.f x5 x4 true).bind fun t143 => ((laws_same.f t140 t143).bind fun t146 => (laws_FnParity.j2 k x0 x3 x4 x5 x6 (!t146)))) else (laws_FnParity.j2 k x0 x3 x4 x5 x6 true)))
def laws_FnParity.j2 : Nat → List Int → List Int → List Int → List Int → List Int → Bool → Option (Bool)
  | 0, _, _, _, _, _, _ => none
  | k + 1, x0, x3, x4, x5, x6, x57 => if x57 = true then (some false) else ((some (([] : List Int) : List Int)).bind fun y147 => (if 8 ≤ (x3.length : Int) then ((some (x3.take 8 : List Int)).bind fun y150 => (if y147.length + y150.length < 140737488355328 then ((some (y147 ++ y150 : List Int)).bind fun y154 => (if 8 ≤ (x5.length : Int) then ((some (x5.take 8 : List Int)).bind fun y157 => (if y154.length + y157.length < 140737488355328 then ((impl_Tdea.f (y154 ++ y157) x4 false).bind fun t164 => ((laws_same.f t164 x6).bind fun t167 => (if t167 = true then (if 0 ≤ ((x0.length : Int) % 50) then (if ((x0.length : Int) % 50) ≤ (x0.length : Int) then ((impl_RetailMac.f x3 (x0.take (((x0.length : Int) % 50) : Int).toNat)).bind fun t169 => ((impl_RetailMac.f x5 (x0.take (((x0.length : Int) % 50) : Int).toNat)).bind fun t173 => ((laws_same.f t169 t173).bind fun t176 => (if t176 = true then ((impl_RetailMac.f x3 ([] : List Int)).bind fun t177 => (some ((t177.length : Int) == 8))) else (some false))))) else (none)) else (none)) else (some false)))) else (none))) else (none))) else (none))) else (none)))
end
def laws_FnParity.f (k : Nat) (l0 : List Int) : Option (Bool) := if (l0.length : Int) > 1048576 then (some true) else ((laws_cut.f k l0 0 16).bind fun t112 => ((laws_cut.f k l0 16 8).bind fun t115 => ((impl_OddParity.f t112).bind fun t118 => (if (t118.length : Int) = 16 then ((impl_OddParity.f t118).bind fun t121 => ((laws_same.f t121 t118).bind fun t124 => (laws_FnParity.j0 k l0 t112 t115 t118 (!t124)))) else (laws_FnParity.j0 k l0 t112 t115 t118 true)))))
theorem laws_FnParity.mono_l : ∀ k, (∀ y0 y1 y2 y3 y4, LeO (laws_FnParity.j0 k y0 y1 y2 y3 y4) (laws_FnParity.j0 (k + 1) y0 y1 y2 y3 y4)) ∧ (∀ y0 y1 y2 y3 y4 y5, LeO (laws_FnParity.j1 k y0 y1 y2 y3 y4 y5) (laws_FnParity.j1 (k + 1) y0 y1 y2 y3 y4 y5)) ∧ (∀ y0 y1 y2 y3 y4 y5, LeO (laws_FnParity.j2 k y0 y1 y2 y3 y4 y5) (laws_FnParity.j2 (k + 1) y0 y1 y2 y3 y4 y5))
  | 0 => ⟨fun _ _ _ _ _ r h => by simp [laws_FnParity.j0] at h, fun _ _ _ _ _ _ r h => by simp [laws_FnParity.j1] at h, fun _ _ _ _ _ _ r h => by simp [laws_FnParity.j2] at h⟩
  | k + 1 => by
    obtain ⟨ih0, ih1, ih2⟩ := laws_FnParity.mono_l k
    refine ⟨?_, ?_, ?_⟩
    · intro y0 y1 y2 y3 y4
      unfold laws_FnParity.j0
      repeat' first
      | (with_reducible exact ih0 _ _ _ _ _)
      | (with_reducible exact ih1 _ _ _ _ _ _)
      | (with_reducible exact ih2 _ _ _ _ _ _)
      | (with_reducible exact laws_cut.mono _ _ _ _)
      | (with_reducible exact LeO.refl _)
      | (with_reducible exact LeO.none _)
      | (with_reducible refine LeO.ite ?_ ?_)
      | (with_reducible refine LeO.bind ?_ (fun _ => ?_))
      | exact ih0 _ _ _ _ _
      | exact ih1 _ _ _ _ _ _
      | exact ih2 _ _ _ _ _ _
      | exact laws_cut.mono _ _ _ _
      | exact LeO.none _
      | refine LeO.ite ?_ ?_
      | refine LeO.bind ?_ (fun _ => ?_)
    · intro y0 y1 y2 y3 y4 y5
      unfold laws_FnParity.j1
      repeat' first
      | (with_reducible exact ih0 _ _ _ _ _)
      | (with_reducible exact ih1 _ _ _ _ _ _)
      | (with_reducible exact ih2 _ _ _ _ _ _)
      | (with_reducible exact laws_cut.mono _ _ _ _)
      | (with_reducible exact LeO.refl _)
      | (with_reducible exact LeO.none _)
      | (with_reducible refine LeO.ite ?_ ?_)
      | (with_reducible refine LeO.bind ?_ (fun _ => ?_))
      | exact ih0 _ _ _ _ _
      | exact ih1 _ _ _ _ _ _
      | exact ih2 _ _ _ _ _ _
      | exact laws_cut.mono _ _ _ _
      | exact LeO.none _
      | refine LeO.ite ?_ ?_
      | refine LeO.bind ?_ (fun _ => ?_)
    · intro y0 y1 y2 y3 y4 y5
      unfold laws_FnParity.j2
      repeat' first
      | (with_reducible exact ih0 _ _ _ _ _)
      | (with_reducible exact ih1 _ _ _ _ _ _)
      | (with_reducible exact ih2 _ _ _ _ _ _)
      | (with_reducible exact laws_cut.mono _ _ _ _)
      | (with_reducible exact LeO.refl _)
      | (with_reducible exact LeO.none _)
      | (with_reducible refine LeO.ite ?_ ?_)
      | (with_reducible refine LeO.bind ?_ (fun _ => ?_))
      | exact ih0 _ _ _ _ _
      | exact ih1 _ _ _ _ _ _
      | exact ih2 _ _ _ _ _ _
      | exact laws_cut.mono _ _ _ _
      | exact LeO.none _
      | refine LeO.ite ?_ ?_
      | refine LeO.bind ?_ (fun _ => ?_)
theorem laws_FnParity.mono : ∀ a0 k, LeO (laws_FnParity.f k a0) (laws_FnParity.f (k + 1) a0) := by
  intro a0 k
  obtain ⟨ih0, ih1, ih2⟩ := laws_FnParity.mono_l k
  unfold laws_FnParity.f
  repeat' first
      | (with_reducible exact ih0 _ _ _ _ _)
      | (with_reducible exact ih1 _ _ _ _ _ _)
      | (with_reducible exact ih2 _ _ _ _ _ _)
      | (with_reducible exact laws_cut.mono _ _ _ _)
      | (with_reducible exact LeO.refl _)
      | (with_reducible exact LeO.none _)
      | (with_reducible refine LeO.ite ?_ ?_)
      | (with_reducible refine LeO.bind ?_ (fun _ => ?_))
      | exact ih0 _ _ _ _ _
      | exact ih1 _ _ _ _ _ _
      | exact ih2 _ _ _ _ _ _
      | exact laws_cut.mono _ _ _ _
      | exact LeO.none _
      | refine LeO.ite ?_ ?_
      | refine LeO.bind ?_ (fun _ => ?_)
def laws_FnParity.T14 : Bool × List (List Nat × List Nat) := (true, [([], []), ([], []), ([1], [1]), ([0, 2], [0, 2]), ([], []), ([4], [4]), ([3, 5, 3], [3, 5]), ([6, 6, 0, 1, 2, 3, 4, 5, 6], [6])])
def laws_FnParity.B14 : List Nat := [0, 0, 2, 7, 0, 16, 63, 127]
theorem laws_FnParity.tab14 : rtab .any (opsOf Tryd.f3 14) = laws_FnParity.T14 := by kernel_rfl
theorem laws_FnParity.bits14 : waitsOk laws_FnParity.T14.2 laws_FnParity.B14 = true := by kernel_rfl
def laws_FnParity.T15 : Bool × List (List Nat × List Nat) := (true, [([], []), ([], []), ([0, 1], [0, 1]), ([], []), ([2, 3, 2], [2, 3]), ([4, 4], [4]), ([5], [5]), ([5], [5]), ([5], [5]), ([8, 5], [5, 8]), ([9, 5], [5, 9]), ([7, 10, 5], [5, 7, 10]), ([6, 11, 5, 5], [5, 6, 11]), ([5], [5]), ([5], [5]), ([5], [5]), ([15, 5], [5, 15]), ([16, 5], [5, 16]), ([14, 17, 5], [5, 14, 17]), ([13, 18, 12, 5], [5, 13, 18]), ([12, 19, 19, 5], [5, 12, 19]), ([5, 20], [5, 20]), ([21, 20], [21]), ([22], [22]), ([23, 22, 22], [22, 23]), ([24, 22], [22, 24]), ([25, 22], [22, 25]), ([22, 26], [22, 26]), ([27, 24, 0, 1, 2, 3, 4, 5, 6, 7, 8, 9, 10, 11, 12, 13, 14, 15, 16, 17, 18, 19, 20, 21, 22, 23, 24, 25, 26, 27], [27])])
def laws_FnParity.B15 : List Nat := [0, 0, 3, 0, 15, 31, 63, 63, 63, 319, 831, 1983, 4095, 63, 63, 63, 32831, 98367, 245823, 524287, 1048575, 2097151, 4194303, 8388607, 16777215, 33554431, 67108863, 134217727, 268435455]
theorem laws_FnParity.tab15 : rtab .any (opsOf Tryd.f3 15) = laws_FnParity.T15 := by kernel_rfl
theorem laws_FnParity.bits15 : waitsOk laws_FnParity.T15.2 laws_FnParity.B15 = true := by kernel_rfl

end Go.Proofs.YtbjlpdfhjapbkaaDoor.LPar
