/- Contract of spec.MakePin in format 3. Conditions: digits, lengths in bounds (each way by itself). -/
import Derived.Test.YtiejallnkgllnaaMpS
namespace Go.Proofs.Ytiejallnkgllnaa
open Go.RowKit Go.Proofs.YtiejallnkgllnaaW.PrintWords Go.Proofs.YtiejallnkgllnaaW.PrintLast Go.Proofs.YtiejallnkgllnaaW.PrintMore Go.Proofs.Ytiejallnkgllnaa.D
open Go.Proofs.Ytiejallnkgllnaa.B (xorL xorL_length)
set_option linter.unusedVariables false
theorem fillL_length (dr : List Int) (n : Nat) (h : n ≤ dr.length) : (fillL dr n).length = n := by simp [fillL]; omega
theorem fillL_nibs (dr : List Int) (h : Bytes dr) (n : Nat) : Nibs (fillL dr n) := fun d hd => by
  obtain ⟨x, hx, rfl⟩ := List.mem_map.1 hd
  have := h x (List.mem_of_mem_take hx)
  omega
set_option maxHeartbeats 4000000 in
set_option maxRecDepth 100000 in
theorem spec_MakePin.f3 (pin pan : ByteArray) (A3 : Option Addr) (dr : List Int) (c3 : Nat) (w : World) (hdr : Kd.C (Kd.int .u8) w A3 dr.length dr) (hdb : Bytes dr) (hdl : 14 - pin.size ≤ dr.length) (hdm : dr.length ≤ 9223372036854775807) (h1 : digOk pin 4 12 = true) (h2 : digOk pan 13 19 = true) (p4 : 4 ≤ pin.size) (p12 : pin.size ≤ 12) (q13 : 13 ≤ pan.size) (q19 : pan.size ≤ 19) (hpd : allDg pin = true) (hqd : allDg pan = true) :
    Calls Try.prog 19 #[.int .i64 3, .string pin, .string pan, .slice A3 dr.length c3] w fun e w' => ∃ v : Value, e = .returned (.agg #[.int .i64 0, v, .int .i64 ((14 - pin.size : Nat) : Int)]) ∧ Kd.R (Kd.int .u8) 5 w' w.heap.size (fun _ => True) v (pinBlk (3 :: (pin.size : Int) :: dgs pin ++ fillL dr (14 - pin.size)) pan) ∧ Below w.heap.size w w' := by
  have K1 : Aside0 (∀ w, Calls Try.prog 53 #[.string pin, .int .i64 4, .int .i64 12] w fun e w' => e = .returned (.bool true) ∧ Drawn0 w w') := ⟨fun w => by rw [← h1]; exact LPin.spec_l4Digits.calls 40 pin 4 12 _ w (LPin.digits_eq pin 4 12 (by omega) 40 (by omega))⟩
  have K2 : Aside0 (∀ w, Calls Try.prog 44 #[.string pan] w fun e w' => e = .returned (.bool true) ∧ Drawn0 w w') := ⟨fun w => by rw [← h2]; exact LPin.spec_l4GoodPan.calls 40 pan _ w (LPin.goodPan_eq pan (by omega) 40 (by omega))⟩
  have HP := Aside0.mk hpd
  have HQ := Aside0.mk hqd
  have HDR := Aside0.mk hdr
  have HDB := Aside0.mk hdb
  clear h1 h2 hpd hqd hdr hdb
  obtain ⟨DS, hDS⟩ : ∃ DS, DS = 3 :: (pin.size : Int) :: dgs pin ++ fillL dr (14 - pin.size) := ⟨_, rfl⟩
  rw [← hDS]
  obtain ⟨cs, hcs⟩ : ∃ cs, cs = pinBlk DS pan := ⟨_, rfl⟩
  rw [← hcs]
  have HDS := Aside0.mk hDS
  have HCS := Aside0.mk hcs
  clear hDS hcs
  have hcv := fun (W : World) => conv_run W pin
  have hn256 : (pin.size : Int) % 256 = (pin.size : Int) := by omega
  go_enter Try.func19, Try.ntmps19
  go_wp2_with fail
  with_reducible refine (K1.out _).mono ?_
  rintro e w1 ⟨rfl, hd1⟩
  go_wp2_with fail
  with_reducible refine (K2.out _).mono ?_
  rintro e w2 ⟨rfl, hd2⟩
  go_wp2_with fail
  obtain ⟨W0, hW0⟩ : ∃ W0, W0 = w2.alloc (.cells #[.int .u8 3, .int .u8 (pin.size : Int)] 5) := ⟨_, rfl⟩
  have BK0 : Aside0 (W0.heap[w.heap.size]? = some (.cells #[.int .i64 0, .slice none 0 0, .int .i64 0] 38)) := ⟨by rw [hW0]; exact blk_alloc (blk_below (blk_below (blk_new w _) hd1.below) hd2.below) _⟩
  have HB2 : Aside0 (Below w.heap.size w w2) := ⟨below_step (below_step ((Below.refl _ _).alloc (Nat.le_refl _) _) hd1.below) hd2.below⟩
  have HB0 : Aside0 (Below w.heap.size w W0) := ⟨by rw [hW0]; exact HB2.out.alloc HB2.out.size _⟩
  have HR0 : Aside0 (Blk W0 w2.heap.size .u8 5 [3, (pin.size : Int)]) := ⟨by rw [hW0]; exact blk_new w2 _⟩
  have hg0 : W0.heap.size = w2.heap.size + 1 := by rw [hW0]; simp
  have hgw : w.heap.size < w2.heap.size := blk_lt (blk_below (blk_below (blk_new w (.cells #[.int .i64 0, .slice none 0 0, .int .i64 0] 38)) hd1.below) hd2.below)
  rw [← hW0]
  clear hW0 hd1 hd2
  have HCV := Aside0.mk (CV.new W0 pin)
  have HB := Aside0.mk (bytesWorld_below 5 pin HB0.out HB0.out.size)
  have HBL := Aside0.mk (bytesWorld_below (B := W0.heap.size) 5 pin (Below.refl _ W0) (Nat.le_refl _))
  have BK := Aside0.mk (blk_below BK0.out HBL.out)
  have HR : Aside0 (Kd.R (Kd.int .u8) 5 (Lib.bytesWorld W0 5 pin) w.heap.size (fun k => k ≠ w.heap.size ∧ k ≠ w2.heap.size + 1) (.slice (some ⟨w2.heap.size, 0, none⟩) 2 2) [3, (pin.size : Int)]) :=
    ⟨Kd.R_reok rfl ((HR0.out.below HBL.out).R (n := 2) HB2.out.size rfl (by omega)) (fun k hk => by simp [Value.ownBlock] at hk; omega)⟩
  rw [hg0] at HCV
  generalize Lib.bytesWorld W0 5 pin = W at HCV HB BK HR ⊢
  obtain ⟨g, hg⟩ : ∃ g, g = w2.heap.size + 1 := ⟨_, rfl⟩
  obtain ⟨C, hC⟩ : ∃ C, C = grownCap W0 pin.size 0 5 := ⟨_, rfl⟩
  rw [← hg] at HCV HR ⊢
  rw [← hC]
  obtain ⟨z2, hz2⟩ : ∃ z2, z2 = w2.heap.size := ⟨_, rfl⟩
  rw [← hz2] at HR ⊢
  clear hg hC HB0 HB2 BK0 HR0 HBL hcv hgw hg0 hz2
  have HL := Aside0.mk (bI_length pin)
  go_loopw [9, 11, 40] (fun v9 v11 v40 wr => ∃ k : Nat, k ≤ pin.size ∧ v40 = .int .i64 k ∧ Aside0 (Kd.R (Kd.int .u8) 5 wr w.heap.size (fun k => k ≠ w.heap.size ∧ k ≠ g) v9 ([3, (pin.size : Int)] ++ (dgs pin).take k)) ∧ Aside0 (CV wr g (bI pin)) ∧ Aside0 (wr.heap[w.heap.size]? = some (.cells #[.int .i64 0, .slice none 0 0, .int .i64 0] 38)) ∧ Aside0 (Below w.heap.size w wr))
    (fun _ _ v40 _ => pin.size - (intOf v40).toNat)
  case atStart => exact ⟨0, by omega, rfl, HR, HCV, BK, HB⟩
  case round =>
    clear HR HCV BK HB
    obtain ⟨k, hk, rfl, HO, HC, BK, HB⟩ := hrel
    by_cases hlt : k < pin.size
    · have hcell := HC.out.2 k (by rw [HL.out]; exact hlt)
      have HT1 := Aside0.mk (take_nth (dgs pin) k (by rw [dgs_length]; exact hlt))
      have hgs := HC.out.1
      have hbs := blk_lt BK.out
      have hx0 := allDg_bI HP.out (nth (bI pin) k) (by rw [nth_at _ _ (by rw [HL.out]; exact hlt)]; exact List.getElem_mem _)
      rw [← dgs_at pin k hlt] at HT1
      obtain ⟨x, hx⟩ : ∃ x, x = nth (bI pin) k := ⟨_, rfl⟩
      rw [← hx] at hcell HT1 hx0
      clear hx
      obtain ⟨hx0, hx1⟩ := hx0
      obtain ⟨ac, hac⟩ : ∃ ac, ac = [3, (pin.size : Int)] ++ (dgs pin).take k := ⟨_, rfl⟩
      rw [← hac] at HO
      have HAC := Aside0.mk hac
      have HLn : Aside0 ((ac.length + 1) * 1 ≤ 140737488355328) := ⟨by rw [hac]; simp; omega⟩
      have HF : Aside0 (∀ j, wr.heap.size ≤ j → j ≠ w.heap.size ∧ j ≠ g) := ⟨fun j hj => by omega⟩
      clear hac hbs
      go_wp2_with (first | ((with_reducible refine gate_builtin (b := .append) (xs := #[.tmp 44, .tmp 47]) rfl ?_); at_builtin; go_must (refine Kd.R_append (Kd.int .u8) (w0 := w) w.heap.size rfl (.tmp 44) (.tmp 47) 29 5 (.int .u8 0) 1 rfl Try.underlying29 info5 rfl (by decide) (by omega) u9 ac (x - 48) [.int .u8 (x - 48)] (fun k => k ≠ w.heap.size ∧ k ≠ g) (fun _ => False) rfl rfl ?aP (fun _ hk => hk.elim) ?aF ?aO ?aB ?aS ?aL ?_; (case aP => exact rfl); (case aB => exact HB.out); (case aF => exact HF.out); (case aO => exact HO.out); (case aS => exact HB.out.size); (case aL => exact HLn.out); intro v1 w1 ho hb hg1 hat; have HO1 := Aside0.mk ho; have HB1 := Aside0.mk hb; have HG1 := Aside0.mk hg1; clear ho hb hg1 hat)))
      go_roundw
      case rel => exact ⟨k + 1, by omega, by go_num, ⟨by rw [HT1.out, ← List.append_assoc, ← HAC.out]; exact HO1.out⟩, ⟨HC.out.grown HG1.out (fun h => (HO.out.1 _ h.symm).2 rfl)⟩, ⟨blk_grown BK.out HG1.out (fun h => (HO.out.1 _ h.symm).1 rfl)⟩, HB1⟩
      case measure => simp [intOf]; omega
    · obtain rfl : k = pin.size := by omega
      rw [List.take_of_length_le (by rw [dgs_length]; exact Nat.le_refl _)] at HO
      have hgc := HC.out.1
      clear HC HL hlt hk
      go_wp2_with fail
      have hacc : Aside0 ([3, (pin.size : Int)] ++ dgs pin = 3 :: (pin.size : Int) :: dgs pin) := ⟨rfl⟩
      rw [hacc.out] at HO
      clear hacc
      obtain ⟨w0, hw0⟩ : ∃ w0 : World, w0 = wr := ⟨_, rfl⟩
      have hgw0 : g < w0.heap.size := by rw [hw0]; exact hgc
      have hsw0 := blk_lt BK.out
      rw [← hw0] at HO BK HB hsw0 ⊢
      clear hw0 hgc
      obtain ⟨x9, hx9⟩ : ∃ x9, x9 = u9 := ⟨_, rfl⟩
      rw [← hx9] at HO ⊢
      clear hx9
      go_loopw [9, 12, 13] (fun v9 v12 v13 wr => ∃ j : Nat, j + pin.size ≤ 14 ∧ v12 = .int .i64 j ∧ w0.heap.size ≤ wr.heap.size ∧ Aside0 (Kd.R (Kd.int .u8) 5 wr w.heap.size (fun k => k ≠ w.heap.size ∧ k ≠ g) v9 (3 :: (pin.size : Int) :: dgs pin ++ fillL dr j)) ∧ Aside0 (wr.heap[w.heap.size]? = some (.cells #[.int .i64 0, .slice none 0 0, .int .i64 0] 38)) ∧ Aside0 (Below w.heap.size w wr))
        (fun v9 _ _ _ => match v9 with | .slice _ n _ => 16 - n | _ => 0)
      case atStart => exact ⟨0, by omega, rfl, Nat.le_refl _, ⟨by simpa [fillL] using HO.out⟩, BK, HB⟩
      case round =>
        clear HO BK HB
        obtain ⟨j, hj, rfl, hws, HO, BK, HB⟩ := hrel
        obtain ⟨ac, hac⟩ : ∃ ac, ac = 3 :: (pin.size : Int) :: dgs pin ++ fillL dr j := ⟨_, rfl⟩
        rw [← hac] at HO
        have hal : ac.length = pin.size + 2 + j := by rw [hac, List.length_append, List.length_cons, List.length_cons, dgs_length, fillL_length dr j (by omega)]; first | done | omega
        have HAC := Aside0.mk hac
        clear hac
        obtain ⟨A9, c9, e9⟩ := Kd.R_slice HO.out
        subst e9
        rw [hal] at HO ⊢
        by_cases hlt : j + pin.size < 14
        · have HLn : Aside0 ((ac.length + 1) * 1 ≤ 140737488355328) := ⟨by omega⟩
          have HF : Aside0 (∀ j, wr.heap.size ≤ j → j ≠ w.heap.size ∧ j ≠ g) := ⟨fun j hj => by omega⟩
          have HAL := Aside0.mk hal
          clear hal
          have c1 : decide (((pin.size + 2 + j : Nat) : Int) < 16) = true := decide_eq_true (by omega)
          have hjd : j < dr.length := by omega
          have c2 : ((j : Int) == (dr.length : Int)) = false := by rw [beq_eq_false_iff_ne]; omega
          obtain ⟨ad, hA, hcell0⟩ := Kd.at_int HDR.out (j : Int) (by omega) (by omega)
          subst hA
          have hcell := (HB.out.cell (World.block_lt_of_cell? w _ hcell0)).trans hcell0
          clear hcell0
          rw [Int.toNat_natCast, rd_nth] at hcell
          obtain ⟨x0, x1⟩ := HDB.out.nth j
          have HFl := Aside0.mk (fillL_snoc dr j hjd)
          obtain ⟨x, hx⟩ : ∃ x, x = nth dr j := ⟨_, rfl⟩
          rw [← hx] at hcell x0 x1 HFl
          clear hx
          have hx6 : (10 + x % 6) % 256 = 10 + x % 6 := by omega
          go_wp2_with (first | ((with_reducible refine gate_builtin (b := .append) (xs := #[.tmp 68, .tmp 70]) rfl ?_); at_builtin; go_must (refine Kd.R_append (Kd.int .u8) (w0 := w) w.heap.size rfl (.tmp 68) (.tmp 70) 29 5 (.int .u8 0) 1 rfl Try.underlying29 info5 rfl (by decide) (by omega) (.slice A9 (pin.size + 2 + j) c9) ac (10 + x % 6) [.int .u8 (10 + x % 6)] (fun k => k ≠ w.heap.size ∧ k ≠ g) (fun _ => False) rfl rfl ?bP (fun _ hk => hk.elim) ?bF ?bO ?bB ?bS ?bL ?_; (case bP => exact rfl); (case bB => exact HB.out); (case bF => exact HF.out); (case bO => exact HO.out); (case bS => exact HB.out.size); (case bL => exact HLn.out); intro v1 w1 ho hb hg1 hat; have HO1 := Aside0.mk ho; have HB1 := Aside0.mk hb; have HG1 := Aside0.mk hg1; clear ho hb hg1 hat)))
          obtain ⟨A1, d1, e1⟩ := Kd.R_slice HO1.out
          have e1' : ac.length + 1 = pin.size + 2 + (j + 1) := by rw [HAL.out]; omega
          rw [List.length_append, List.length_singleton, e1'] at e1
          subst e1
          go_roundw
          case rel => exact ⟨j + 1, by omega, by go_num, Nat.le_trans hws HG1.out.size, ⟨by rw [HFl.out, ← List.append_assoc, ← HAC.out]; exact HO1.out⟩, ⟨blk_grown BK.out HG1.out (fun h => (HO.out.1 _ h.symm).1 rfl)⟩, HB1⟩
          case measure => simp; omega
        · obtain rfl : j = 14 - pin.size := by omega
          rw [← HDS.out] at HAC
          obtain rfl := HAC.out
          have e16 : pin.size + 2 + (14 - pin.size) = 16 := by omega
          rw [e16] at hal HO ⊢
          have DN : Nibs ac := by
            rw [HDS.out]
            refine Nibs.app (fun d hd => ?_) (fun d hd => ?_)
            · rcases List.mem_cons.1 hd with rfl | hd
              · omega
              · rcases List.mem_cons.1 hd with rfl | hd
                · omega
                · exact (HexOf.dig HP.out).2 d hd
            · exact fillL_nibs dr HDB.out _ d hd
          obtain ⟨P1, P2, P3⟩ := LPin.pin_pack ac pan hal DN HQ.out q13
          rw [← HCS.out] at P1
          have hcl : cs.length = 8 := by rw [HCS.out, pinBlk, xorL_length _ _ (by rw [outN_length _ _ (by omega), outN_length _ _ (by omega)]; exact Nat.le_refl _), outN_length _ _ (by omega)]
          have hal2 := accD_length pan q13
          obtain ⟨X, hX⟩ : ∃ X, X = xorL ac (accD pan) := ⟨_, rfl⟩
          have K46 : Aside0 (∀ w, Calls Try.prog 46 #[.string pan] w fun e w' => ∃ v : Value, e = .returned v ∧ Kd.R (Kd.int .u8) 5 w' w.heap.size (fun _ => True) v (accD pan) ∧ Below w.heap.size w w') := ⟨fun w => by rw [← LPin.accS_eq pan HQ.out]; exact spec_l4Account.at pan w q13 (by omega)⟩
          have K45 : Aside0 (∀ (A : Option Addr) (c : Nat) (A' : Option Addr) (c' : Nat) (w : World), Kd.C (Kd.int .u8) w A 16 ac → 16 ≤ c → Kd.C (Kd.int .u8) w A' 16 (accD pan) → 16 ≤ c' → Calls Try.prog 45 #[.slice A 16 c, .slice A' 16 c'] w fun e w' => ∃ v : Value, e = .returned v ∧ Kd.R (Kd.int .u8) 5 w' w.heap.size (fun _ => True) v X ∧ Below w.heap.size w w') := ⟨fun A c A' c' w h1 h2 h3 h4 => by
            have := LPin.spec_l1Xor.calls 40 A c ac A' c' (accD pan) X w (by rw [hal]; exact h1) (by rw [hal]; exact h2) (by rw [hal2]; exact h3) (by rw [hal2]; exact h4) (by rw [hX]; exact LPin.xor_eq ac (accD pan) (by omega) (by omega) 40 (by omega))
            rw [hal, hal2] at this
            exact this⟩
          have K54 : Aside0 (∀ (A : Option Addr) (c : Nat) (w : World), Kd.C (Kd.int .u8) w A 16 X → 16 ≤ c → Calls Try.prog 54 #[.slice A 16 c] w fun e w' => ∃ v : Value, e = .returned v ∧ Kd.R (Kd.int .u8) 5 w' w.heap.size (fun _ => True) v cs ∧ Below w.heap.size w w') := ⟨fun A c w h1 h2 => by
            have := LPin.spec_l4Pack.calls 40 A c X cs w (by rw [hX, P3]; rw [hX] at h1; exact h1) (by rw [hX, P3]; exact h2) (by rw [hX, ← P1]; exact LPin.pack_eq _ P3 P2 40 (by omega))
            rw [show X.length = 16 by rw [hX]; exact P3] at this
            exact this⟩
          have hXl : X.length = 16 := by rw [hX]; exact P3
          have HCo := Aside0.mk (Kd.R_reads' HO.out)
          rw [hal] at HCo
          have HAL2 := Aside0.mk hal2
          have HXL := Aside0.mk hXl
          have HCL := Aside0.mk hcl
          clear P1 P2 P3 hX hXl hal2 hal DN hcl HO
          go_wp2_with fail
          with_reducible refine (K46.out _).mono ?_
          rintro e w3 ⟨v3, rfl, ho3, hb3⟩
          obtain ⟨Aa, ca, rfl⟩ := Kd.R_slice ho3
          have HA := Aside0.mk (Kd.R_reads' ho3)
          have HC3 := Aside0.mk (Kd.C_below HCo.out.2.2 hb3)
          have BK3 := Aside0.mk (blk_below BK.out hb3)
          have HB3 := Aside0.mk (below_step HB.out hb3)
          rw [HAL2.out] at HA ⊢
          clear ho3 hb3
          go_wp2_with fail
          with_reducible refine (K45.out _ _ _ _ _ HC3.out HCo.out.2.1 HA.out.2.2 HA.out.2.1).mono ?_
          rintro e w4 ⟨v4, rfl, ho4, hb4⟩
          obtain ⟨Ab, cb, rfl⟩ := Kd.R_slice ho4
          have HX4 := Aside0.mk (Kd.R_reads' ho4)
          have BK4 := Aside0.mk (blk_below BK3.out hb4)
          have HB4 := Aside0.mk (below_step HB3.out hb4)
          rw [HXL.out] at HX4 ⊢
          clear ho4 hb4
          go_wp2_with fail
          with_reducible refine (K54.out _ _ _ HX4.out.2.2 HX4.out.2.1).mono ?_
          rintro e w5 ⟨v5, rfl, ho5, hb5⟩
          obtain ⟨Ac, cc, rfl⟩ := Kd.R_slice ho5
          have HR5 := Aside0.mk (Kd.R_lower ho5 HB4.out.size)
          have BK5 := Aside0.mk (blk_below BK4.out hb5)
          have HB5 := Aside0.mk (below_step HB4.out hb5)
          clear ho5 hb5
          have z0 : w5.cell? ⟨w.heap.size, 0, none⟩ = some (.int .i64 0) := (blk_cell BK5.out 0).trans rfl
          have z1 : w5.cell? ⟨w.heap.size, 1, none⟩ = some (.slice none 0 0) := (blk_cell BK5.out 1).trans rfl
          have z2 : w5.cell? ⟨w.heap.size, 2, none⟩ = some (.int .i64 0) := (blk_cell BK5.out 2).trans rfl
          have f0 := blk_frozen BK5.out 0
          have f1 := blk_frozen BK5.out 1
          have f2 := blk_frozen BK5.out 2
          go_wp2
          refine bodyPost_ret (results_cell_row rfl _ _ w.heap.size 38 _ (0, 0) _ rfl (blk_set (blk_set (blk_set BK5.out _ _) _ _) _ _) Try.underlying38 rfl infoPB) rfl ⟨_, rfl, ?_, ((HB5.out.setCell (p := ⟨w.heap.size, 0, none⟩) (Nat.le_refl _) _).setCell (p := ⟨w.heap.size, 1, none⟩) (Nat.le_refl _) _).setCell (p := ⟨w.heap.size, 2, none⟩) (Nat.le_refl _) _⟩
          exact Kd.R_set (Kd.R_set (Kd.R_set HR5.out BK5.out (by decide) 0 _) (blk_set BK5.out 0 _) (by decide) 1 _) (blk_set (blk_set BK5.out 0 _) 1 _) (by decide) 2 _
set_option maxHeartbeats 4000000 in
set_option maxRecDepth 100000 in
theorem spec_MakePin.f3s (pin pan : ByteArray) (A3 : Option Addr) (dr : List Int) (c3 : Nat) (w : World) (hdr : Kd.C (Kd.int .u8) w A3 dr.length dr) (hdb : Bytes dr) (hdl : dr.length < 14 - pin.size) (h1 : digOk pin 4 12 = true) (h2 : digOk pan 13 19 = true) (p4 : 4 ≤ pin.size) (p12 : pin.size ≤ 12) (q19 : pan.size ≤ 19) (hpd : allDg pin = true) :
    Calls Try.prog 19 #[.int .i64 3, .string pin, .string pan, .slice A3 dr.length c3] w fun e w' => e = .returned (.agg #[.int .i64 2, .slice none 0 0, .int .i64 0]) ∧ Below w.heap.size w w' := by
  have K1 : Aside0 (∀ w, Calls Try.prog 53 #[.string pin, .int .i64 4, .int .i64 12] w fun e w' => e = .returned (.bool true) ∧ Drawn0 w w') := ⟨fun w => by rw [← h1]; exact LPin.spec_l4Digits.calls 40 pin 4 12 _ w (LPin.digits_eq pin 4 12 (by omega) 40 (by omega))⟩
  have K2 : Aside0 (∀ w, Calls Try.prog 44 #[.string pan] w fun e w' => e = .returned (.bool true) ∧ Drawn0 w w') := ⟨fun w => by rw [← h2]; exact LPin.spec_l4GoodPan.calls 40 pan _ w (LPin.goodPan_eq pan (by omega) 40 (by omega))⟩
  have HP := Aside0.mk hpd
  have HDR := Aside0.mk hdr
  have HDB := Aside0.mk hdb
  clear h1 h2 hpd hdr hdb
  have hcv := fun (W : World) => conv_run W pin
  have hn256 : (pin.size : Int) % 256 = (pin.size : Int) := by omega
  go_enter Try.func19, Try.ntmps19
  go_wp2_with fail
  with_reducible refine (K1.out _).mono ?_
  rintro e w1 ⟨rfl, hd1⟩
  go_wp2_with fail
  with_reducible refine (K2.out _).mono ?_
  rintro e w2 ⟨rfl, hd2⟩
  go_wp2_with fail
  obtain ⟨W0, hW0⟩ : ∃ W0, W0 = w2.alloc (.cells #[.int .u8 3, .int .u8 (pin.size : Int)] 5) := ⟨_, rfl⟩
  have BK0 : Aside0 (W0.heap[w.heap.size]? = some (.cells #[.int .i64 0, .slice none 0 0, .int .i64 0] 38)) := ⟨by rw [hW0]; exact blk_alloc (blk_below (blk_below (blk_new w _) hd1.below) hd2.below) _⟩
  have HB2 : Aside0 (Below w.heap.size w w2) := ⟨below_step (below_step ((Below.refl _ _).alloc (Nat.le_refl _) _) hd1.below) hd2.below⟩
  have HB0 : Aside0 (Below w.heap.size w W0) := ⟨by rw [hW0]; exact HB2.out.alloc HB2.out.size _⟩
  have HR0 : Aside0 (Blk W0 w2.heap.size .u8 5 [3, (pin.size : Int)]) := ⟨by rw [hW0]; exact blk_new w2 _⟩
  have hg0 : W0.heap.size = w2.heap.size + 1 := by rw [hW0]; simp
  have hgw : w.heap.size < w2.heap.size := blk_lt (blk_below (blk_below (blk_new w (.cells #[.int .i64 0, .slice none 0 0, .int .i64 0] 38)) hd1.below) hd2.below)
  rw [← hW0]
  clear hW0 hd1 hd2
  have HCV := Aside0.mk (CV.new W0 pin)
  have HB := Aside0.mk (bytesWorld_below 5 pin HB0.out HB0.out.size)
  have HBL := Aside0.mk (bytesWorld_below (B := W0.heap.size) 5 pin (Below.refl _ W0) (Nat.le_refl _))
  have BK := Aside0.mk (blk_below BK0.out HBL.out)
  have HR : Aside0 (Kd.R (Kd.int .u8) 5 (Lib.bytesWorld W0 5 pin) w.heap.size (fun k => k ≠ w.heap.size ∧ k ≠ w2.heap.size + 1) (.slice (some ⟨w2.heap.size, 0, none⟩) 2 2) [3, (pin.size : Int)]) :=
    ⟨Kd.R_reok rfl ((HR0.out.below HBL.out).R (n := 2) HB2.out.size rfl (by omega)) (fun k hk => by simp [Value.ownBlock] at hk; omega)⟩
  rw [hg0] at HCV
  generalize Lib.bytesWorld W0 5 pin = W at HCV HB BK HR ⊢
  obtain ⟨g, hg⟩ : ∃ g, g = w2.heap.size + 1 := ⟨_, rfl⟩
  obtain ⟨C, hC⟩ : ∃ C, C = grownCap W0 pin.size 0 5 := ⟨_, rfl⟩
  rw [← hg] at HCV HR ⊢
  rw [← hC]
  obtain ⟨z2, hz2⟩ : ∃ z2, z2 = w2.heap.size := ⟨_, rfl⟩
  rw [← hz2] at HR ⊢
  clear hg hC HB0 HB2 BK0 HR0 HBL hcv hgw hg0 hz2
  have HL := Aside0.mk (bI_length pin)
  go_loopw [9, 11, 40] (fun v9 v11 v40 wr => ∃ k : Nat, k ≤ pin.size ∧ v40 = .int .i64 k ∧ Aside0 (Kd.R (Kd.int .u8) 5 wr w.heap.size (fun k => k ≠ w.heap.size ∧ k ≠ g) v9 ([3, (pin.size : Int)] ++ (dgs pin).take k)) ∧ Aside0 (CV wr g (bI pin)) ∧ Aside0 (wr.heap[w.heap.size]? = some (.cells #[.int .i64 0, .slice none 0 0, .int .i64 0] 38)) ∧ Aside0 (Below w.heap.size w wr))
    (fun _ _ v40 _ => pin.size - (intOf v40).toNat)
  case atStart => exact ⟨0, by omega, rfl, HR, HCV, BK, HB⟩
  case round =>
    clear HR HCV BK HB
    obtain ⟨k, hk, rfl, HO, HC, BK, HB⟩ := hrel
    by_cases hlt : k < pin.size
    · have hcell := HC.out.2 k (by rw [HL.out]; exact hlt)
      have HT1 := Aside0.mk (take_nth (dgs pin) k (by rw [dgs_length]; exact hlt))
      have hgs := HC.out.1
      have hbs := blk_lt BK.out
      have hx0 := allDg_bI HP.out (nth (bI pin) k) (by rw [nth_at _ _ (by rw [HL.out]; exact hlt)]; exact List.getElem_mem _)
      rw [← dgs_at pin k hlt] at HT1
      obtain ⟨x, hx⟩ : ∃ x, x = nth (bI pin) k := ⟨_, rfl⟩
      rw [← hx] at hcell HT1 hx0
      clear hx
      obtain ⟨hx0, hx1⟩ := hx0
      obtain ⟨ac, hac⟩ : ∃ ac, ac = [3, (pin.size : Int)] ++ (dgs pin).take k := ⟨_, rfl⟩
      rw [← hac] at HO
      have HAC := Aside0.mk hac
      have HLn : Aside0 ((ac.length + 1) * 1 ≤ 140737488355328) := ⟨by rw [hac]; simp; omega⟩
      have HF : Aside0 (∀ j, wr.heap.size ≤ j → j ≠ w.heap.size ∧ j ≠ g) := ⟨fun j hj => by omega⟩
      clear hac hbs
      go_wp2_with (first | ((with_reducible refine gate_builtin (b := .append) (xs := #[.tmp 44, .tmp 47]) rfl ?_); at_builtin; go_must (refine Kd.R_append (Kd.int .u8) (w0 := w) w.heap.size rfl (.tmp 44) (.tmp 47) 29 5 (.int .u8 0) 1 rfl Try.underlying29 info5 rfl (by decide) (by omega) u9 ac (x - 48) [.int .u8 (x - 48)] (fun k => k ≠ w.heap.size ∧ k ≠ g) (fun _ => False) rfl rfl ?aP (fun _ hk => hk.elim) ?aF ?aO ?aB ?aS ?aL ?_; (case aP => exact rfl); (case aB => exact HB.out); (case aF => exact HF.out); (case aO => exact HO.out); (case aS => exact HB.out.size); (case aL => exact HLn.out); intro v1 w1 ho hb hg1 hat; have HO1 := Aside0.mk ho; have HB1 := Aside0.mk hb; have HG1 := Aside0.mk hg1; clear ho hb hg1 hat)))
      go_roundw
      case rel => exact ⟨k + 1, by omega, by go_num, ⟨by rw [HT1.out, ← List.append_assoc, ← HAC.out]; exact HO1.out⟩, ⟨HC.out.grown HG1.out (fun h => (HO.out.1 _ h.symm).2 rfl)⟩, ⟨blk_grown BK.out HG1.out (fun h => (HO.out.1 _ h.symm).1 rfl)⟩, HB1⟩
      case measure => simp [intOf]; omega
    · obtain rfl : k = pin.size := by omega
      rw [List.take_of_length_le (by rw [dgs_length]; exact Nat.le_refl _)] at HO
      have hgc := HC.out.1
      clear HC HL hlt hk
      go_wp2_with fail
      have hacc : Aside0 ([3, (pin.size : Int)] ++ dgs pin = 3 :: (pin.size : Int) :: dgs pin) := ⟨rfl⟩
      rw [hacc.out] at HO
      clear hacc
      obtain ⟨w0, hw0⟩ : ∃ w0 : World, w0 = wr := ⟨_, rfl⟩
      have hgw0 : g < w0.heap.size := by rw [hw0]; exact hgc
      have hsw0 := blk_lt BK.out
      rw [← hw0] at HO BK HB hsw0 ⊢
      clear hw0 hgc
      obtain ⟨x9, hx9⟩ : ∃ x9, x9 = u9 := ⟨_, rfl⟩
      rw [← hx9] at HO ⊢
      clear hx9
      go_loopw [9, 12, 13] (fun v9 v12 v13 wr => ∃ j : Nat, j ≤ dr.length ∧ v12 = .int .i64 j ∧ w0.heap.size ≤ wr.heap.size ∧ Aside0 (Kd.R (Kd.int .u8) 5 wr w.heap.size (fun k => k ≠ w.heap.size ∧ k ≠ g) v9 (3 :: (pin.size : Int) :: dgs pin ++ fillL dr j)) ∧ Aside0 (wr.heap[w.heap.size]? = some (.cells #[.int .i64 0, .slice none 0 0, .int .i64 0] 38)) ∧ Aside0 (Below w.heap.size w wr))
        (fun v9 _ _ _ => match v9 with | .slice _ n _ => 16 - n | _ => 0)
      case atStart => exact ⟨0, by omega, rfl, Nat.le_refl _, ⟨by simpa [fillL] using HO.out⟩, BK, HB⟩
      case round =>
        clear HO BK HB
        obtain ⟨j, hj, rfl, hws, HO, BK, HB⟩ := hrel
        obtain ⟨ac, hac⟩ : ∃ ac, ac = 3 :: (pin.size : Int) :: dgs pin ++ fillL dr j := ⟨_, rfl⟩
        rw [← hac] at HO
        have hal : ac.length = pin.size + 2 + j := by rw [hac, List.length_append, List.length_cons, List.length_cons, dgs_length, fillL_length dr j (by omega)]; first | done | omega
        have HAC := Aside0.mk hac
        clear hac
        obtain ⟨A9, c9, e9⟩ := Kd.R_slice HO.out
        subst e9
        rw [hal] at HO ⊢
        by_cases hjd : j < dr.length
        · have HLn : Aside0 ((ac.length + 1) * 1 ≤ 140737488355328) := ⟨by omega⟩
          have HF : Aside0 (∀ j, wr.heap.size ≤ j → j ≠ w.heap.size ∧ j ≠ g) := ⟨fun j hj => by omega⟩
          have HAL := Aside0.mk hal
          clear hal
          have c1 : decide (((pin.size + 2 + j : Nat) : Int) < 16) = true := decide_eq_true (by omega)
          have c2 : ((j : Int) == (dr.length : Int)) = false := by rw [beq_eq_false_iff_ne]; omega
          obtain ⟨ad, hA, hcell0⟩ := Kd.at_int HDR.out (j : Int) (by omega) (by omega)
          subst hA
          have hcell := (HB.out.cell (World.block_lt_of_cell? w _ hcell0)).trans hcell0
          clear hcell0
          rw [Int.toNat_natCast, rd_nth] at hcell
          obtain ⟨x0, x1⟩ := HDB.out.nth j
          have HFl := Aside0.mk (fillL_snoc dr j hjd)
          obtain ⟨x, hx⟩ : ∃ x, x = nth dr j := ⟨_, rfl⟩
          rw [← hx] at hcell x0 x1 HFl
          clear hx
          have hx6 : (10 + x % 6) % 256 = 10 + x % 6 := by omega
          go_wp2_with (first | ((with_reducible refine gate_builtin (b := .append) (xs := #[.tmp 68, .tmp 70]) rfl ?_); at_builtin; go_must (refine Kd.R_append (Kd.int .u8) (w0 := w) w.heap.size rfl (.tmp 68) (.tmp 70) 29 5 (.int .u8 0) 1 rfl Try.underlying29 info5 rfl (by decide) (by omega) (.slice A9 (pin.size + 2 + j) c9) ac (10 + x % 6) [.int .u8 (10 + x % 6)] (fun k => k ≠ w.heap.size ∧ k ≠ g) (fun _ => False) rfl rfl ?bP (fun _ hk => hk.elim) ?bF ?bO ?bB ?bS ?bL ?_; (case bP => exact rfl); (case bB => exact HB.out); (case bF => exact HF.out); (case bO => exact HO.out); (case bS => exact HB.out.size); (case bL => exact HLn.out); intro v1 w1 ho hb hg1 hat; have HO1 := Aside0.mk ho; have HB1 := Aside0.mk hb; have HG1 := Aside0.mk hg1; clear ho hb hg1 hat)))
          obtain ⟨A1, d1, e1⟩ := Kd.R_slice HO1.out
          have e1' : ac.length + 1 = pin.size + 2 + (j + 1) := by rw [HAL.out]; omega
          rw [List.length_append, List.length_singleton, e1'] at e1
          subst e1
          go_roundw
          case rel => exact ⟨j + 1, by omega, by go_num, Nat.le_trans hws HG1.out.size, ⟨by rw [HFl.out, ← List.append_assoc, ← HAC.out]; exact HO1.out⟩, ⟨blk_grown BK.out HG1.out (fun h => (HO.out.1 _ h.symm).1 rfl)⟩, HB1⟩
          case measure => simp; omega
        · obtain rfl : j = dr.length := by omega
          have c1 : decide (((pin.size + 2 + dr.length : Nat) : Int) < 16) = true := decide_eq_true (by omega)
          have c2 : ((dr.length : Int) == (dr.length : Int)) = true := by rw [beq_iff_eq]
          have z0 : wr.cell? ⟨w.heap.size, 0, none⟩ = some (.int .i64 0) := (blk_cell BK.out 0).trans rfl
          have z1 : wr.cell? ⟨w.heap.size, 1, none⟩ = some (.slice none 0 0) := (blk_cell BK.out 1).trans rfl
          have z2 : wr.cell? ⟨w.heap.size, 2, none⟩ = some (.int .i64 0) := (blk_cell BK.out 2).trans rfl
          have f0 := blk_frozen BK.out 0
          have f1 := blk_frozen BK.out 1
          have f2 := blk_frozen BK.out 2
          clear HO hal
          go_wp2
          exact bodyPost_ret (results_cell_row rfl _ _ w.heap.size 38 _ (0, 0) _ rfl (blk_set (blk_set (blk_set BK.out _ _) _ _) _ _) Try.underlying38 rfl infoPB) rfl ⟨rfl, ((HB.out.setCell (p := ⟨w.heap.size, 0, none⟩) (Nat.le_refl _) _).setCell (p := ⟨w.heap.size, 1, none⟩) (Nat.le_refl _) _).setCell (p := ⟨w.heap.size, 2, none⟩) (Nat.le_refl _) _⟩
set_option maxHeartbeats 4000000 in
set_option maxRecDepth 100000 in
theorem spec_MakePin.bad0 (f : Int) (pin pan : ByteArray) (A3 : Option Addr) (n3 c3 : Nat) (w : World) (h0 : f ≠ 0) (h3 : f ≠ 3) :
    Calls Try.prog 19 #[.int .i64 f, .string pin, .string pan, .slice A3 n3 c3] w fun e w' => e = .returned (.agg #[.int .i64 1, .slice none 0 0, .int .i64 0]) ∧ Below w.heap.size w w' := by
  have c0 : (f != 0) = true := by rw [bne_iff_ne]; exact h0
  have c3 : (f != 3) = true := by rw [bne_iff_ne]; exact h3
  clear h0 h3
  go_enter Try.func19, Try.ntmps19
  go_wp2_with fail
  refine bodyPost_ret (results_cell_row rfl _ _ w.heap.size 38 _ (0, 0) _ rfl (blk_new w _) Try.underlying38 rfl infoPB) rfl ⟨rfl, (Below.refl _ _).alloc (Nat.le_refl _) _⟩
set_option maxHeartbeats 4000000 in
set_option maxRecDepth 100000 in
theorem spec_MakePin.bad1 (f : Int) (hf : f = 0 ∨ f = 3) (pin pan : ByteArray) (A3 : Option Addr) (n3 c3 : Nat) (w : World) (hp : pin.size ≤ 1000000000) (h1 : digOk pin 4 12 = false) :
    Calls Try.prog 19 #[.int .i64 f, .string pin, .string pan, .slice A3 n3 c3] w fun e w' => e = .returned (.agg #[.int .i64 1, .slice none 0 0, .int .i64 0]) ∧ Below w.heap.size w w' := by
  have K1 : Aside0 (∀ w, Calls Try.prog 53 #[.string pin, .int .i64 4, .int .i64 12] w fun e w' => e = .returned (.bool false) ∧ Drawn0 w w') := ⟨fun w => by rw [← h1]; exact LPin.spec_l4Digits.calls (pin.size + 2) pin 4 12 _ w (LPin.digits_eq pin 4 12 (by omega) _ (by omega))⟩
  clear h1
  have BK : Aside0 ((w.alloc (.cells #[.int .i64 0, .slice none 0 0, .int .i64 0] 38)).heap[w.heap.size]? = some (.cells #[.int .i64 0, .slice none 0 0, .int .i64 0] 38)) := ⟨blk_new w _⟩
  have HB : Aside0 (Below w.heap.size w (w.alloc (.cells #[.int .i64 0, .slice none 0 0, .int .i64 0] 38))) := ⟨(Below.refl _ _).alloc (Nat.le_refl _) _⟩
  rcases hf with rfl | rfl
  all_goals
    go_enter Try.func19, Try.ntmps19
    go_wp2_with fail
    with_reducible refine (K1.out _).mono ?_
    rintro e wX ⟨rfl, hb1⟩
    replace hb1 := hb1.below
    have BK1 := Aside0.mk (blk_below BK.out hb1)
    have HB1 := Aside0.mk (below_step HB.out hb1)
    clear hb1
    have z0 : wX.cell? ⟨w.heap.size, 0, none⟩ = some (.int .i64 0) := (blk_cell BK1.out 0).trans rfl
    have z1 : wX.cell? ⟨w.heap.size, 1, none⟩ = some (.slice none 0 0) := (blk_cell BK1.out 1).trans rfl
    have z2 : wX.cell? ⟨w.heap.size, 2, none⟩ = some (.int .i64 0) := (blk_cell BK1.out 2).trans rfl
    have f0 := blk_frozen BK1.out 0
    have f1 := blk_frozen BK1.out 1
    have f2 := blk_frozen BK1.out 2
    go_wp2
    exact bodyPost_ret (results_cell_row rfl _ _ w.heap.size 38 _ (0, 0) _ rfl (blk_set (blk_set (blk_set BK1.out _ _) _ _) _ _) Try.underlying38 rfl infoPB) rfl ⟨rfl, ((HB1.out.setCell (p := ⟨w.heap.size, 0, none⟩) (Nat.le_refl _) _).setCell (p := ⟨w.heap.size, 1, none⟩) (Nat.le_refl _) _).setCell (p := ⟨w.heap.size, 2, none⟩) (Nat.le_refl _) _⟩
set_option maxHeartbeats 4000000 in
set_option maxRecDepth 100000 in
theorem spec_MakePin.bad2 (f : Int) (hf : f = 0 ∨ f = 3) (pin pan : ByteArray) (A3 : Option Addr) (n3 c3 : Nat) (w : World) (hp : pin.size ≤ 1000000000) (hq : pan.size ≤ 1000000000) (h1 : digOk pin 4 12 = true) (h2 : digOk pan 13 19 = false) :
    Calls Try.prog 19 #[.int .i64 f, .string pin, .string pan, .slice A3 n3 c3] w fun e w' => e = .returned (.agg #[.int .i64 1, .slice none 0 0, .int .i64 0]) ∧ Below w.heap.size w w' := by
  have K1 : Aside0 (∀ w, Calls Try.prog 53 #[.string pin, .int .i64 4, .int .i64 12] w fun e w' => e = .returned (.bool true) ∧ Drawn0 w w') := ⟨fun w => by rw [← h1]; exact LPin.spec_l4Digits.calls (pin.size + 2) pin 4 12 _ w (LPin.digits_eq pin 4 12 (by omega) _ (by omega))⟩
  have K2 : Aside0 (∀ w, Calls Try.prog 44 #[.string pan] w fun e w' => e = .returned (.bool false) ∧ Drawn0 w w') := ⟨fun w => by rw [← h2]; exact LPin.spec_l4GoodPan.calls (pan.size + 2) pan _ w (LPin.goodPan_eq pan (by omega) _ (by omega))⟩
  clear h1 h2
  have BK : Aside0 ((w.alloc (.cells #[.int .i64 0, .slice none 0 0, .int .i64 0] 38)).heap[w.heap.size]? = some (.cells #[.int .i64 0, .slice none 0 0, .int .i64 0] 38)) := ⟨blk_new w _⟩
  have HB : Aside0 (Below w.heap.size w (w.alloc (.cells #[.int .i64 0, .slice none 0 0, .int .i64 0] 38))) := ⟨(Below.refl _ _).alloc (Nat.le_refl _) _⟩
  rcases hf with rfl | rfl
  all_goals
    go_enter Try.func19, Try.ntmps19
    go_wp2_with fail
    with_reducible refine (K1.out _).mono ?_
    rintro e w1 ⟨rfl, hb1⟩
    replace hb1 := hb1.below
    have BK0 := Aside0.mk (blk_below BK.out hb1)
    have HB0 := Aside0.mk (below_step HB.out hb1)
    clear hb1
    go_wp2_with fail
    with_reducible refine (K2.out _).mono ?_
    rintro e wX ⟨rfl, hb1⟩
    replace hb1 := hb1.below
    have BK1 := Aside0.mk (blk_below BK0.out hb1)
    have HB1 := Aside0.mk (below_step HB0.out hb1)
    clear hb1
    have z0 : wX.cell? ⟨w.heap.size, 0, none⟩ = some (.int .i64 0) := (blk_cell BK1.out 0).trans rfl
    have z1 : wX.cell? ⟨w.heap.size, 1, none⟩ = some (.slice none 0 0) := (blk_cell BK1.out 1).trans rfl
    have z2 : wX.cell? ⟨w.heap.size, 2, none⟩ = some (.int .i64 0) := (blk_cell BK1.out 2).trans rfl
    have f0 := blk_frozen BK1.out 0
    have f1 := blk_frozen BK1.out 1
    have f2 := blk_frozen BK1.out 2
    go_wp2
    exact bodyPost_ret (results_cell_row rfl _ _ w.heap.size 38 _ (0, 0) _ rfl (blk_set (blk_set (blk_set BK1.out _ _) _ _) _ _) Try.underlying38 rfl infoPB) rfl ⟨rfl, ((HB1.out.setCell (p := ⟨w.heap.size, 0, none⟩) (Nat.le_refl _) _).setCell (p := ⟨w.heap.size, 1, none⟩) (Nat.le_refl _) _).setCell (p := ⟨w.heap.size, 2, none⟩) (Nat.le_refl _) _⟩
end Go.Proofs.Ytiejallnkgllnaa
