/- Contract of impl.MakePin in format 3. Conditions: digits, lengths in bounds. -/
import Derived.Test.YtiejallnkgllnaaMp0
namespace Go.Proofs.Ytiejallnkgllnaa
open Go.RowKit Go.Proofs.YtiejallnkgllnaaW.PrintWords Go.Proofs.YtiejallnkgllnaaW.PrintLast Go.Proofs.YtiejallnkgllnaaW.PrintMore Go.Proofs.Ytiejallnkgllnaa.D
open Go.Proofs.Ytiejallnkgllnaa.B (xorL xorL_length)
set_option linter.unusedVariables false
/-- The fill digits out of draws. -/
def fillL (dr : List Int) (n : Nat) : List Int := (dr.take n).map fun x => 10 + x % 6
theorem fillL_snoc (dr : List Int) (n : Nat) (h : n < dr.length) : fillL dr (n + 1) = fillL dr n ++ [10 + nth dr n % 6] := by
  unfold fillL
  rw [take_nth dr n h, List.map_append]
  rfl
set_option maxHeartbeats 4000000 in
set_option maxRecDepth 100000 in
theorem impl_MakePin.f3 (pin pan : ByteArray) (A3 : Option Addr) (dr : List Int) (c3 : Nat) (w : World) (hdr : Kd.C (Kd.int .u8) w A3 dr.length dr) (hdb : Bytes dr) (hdl : 14 - pin.size ≤ dr.length) (hdm : dr.length ≤ 9223372036854775807) (h1 : digOk pin 4 12 = true) (h2 : digOk pan 13 19 = true) (p4 : 4 ≤ pin.size) (p12 : pin.size ≤ 12) (q13 : 13 ≤ pan.size) (q19 : pan.size ≤ 19) (hpd : allDg pin = true) (hqd : allDg pan = true) :
    Calls Try.prog 20 #[.int .i64 3, .string pin, .string pan, .slice A3 dr.length c3] w fun e w' => ∃ v : Value, e = .returned (.agg #[.int .i64 0, v, .int .i64 ((14 - pin.size : Nat) : Int)]) ∧ Kd.R (Kd.int .u8) 84 w' w.heap.size (fun _ => True) v (pinBlk (3 :: (pin.size : Int) :: dgs pin ++ fillL dr (14 - pin.size)) pan) ∧ Below w.heap.size w w' := by
  have K1 : Aside0 (∀ w, Calls Try.prog 49 #[.string pin, .int .i64 4, .int .i64 12] w fun e w' => e = .returned (.bool true) ∧ Below w.heap.size w w') := ⟨fun w => by rw [← h1]; exact impl_digits.calls pin 4 12 w (by omega)⟩
  have K2 : Aside0 (∀ w, Calls Try.prog 49 #[.string pan, .int .i64 13, .int .i64 19] w fun e w' => e = .returned (.bool true) ∧ Below w.heap.size w w') := ⟨fun w => by rw [← h2]; exact impl_digits.calls pan 13 19 w (by omega)⟩
  have HP := Aside0.mk hpd
  have HQ := Aside0.mk hqd
  have HDR := Aside0.mk hdr
  have HDB := Aside0.mk hdb
  clear h1 h2 hpd hqd hdr hdb
  obtain ⟨DS, hDS⟩ : ∃ DS, DS = 3 :: (pin.size : Int) :: dgs pin ++ fillL dr (14 - pin.size) := ⟨_, rfl⟩
  rw [← hDS]
  obtain ⟨cs, hcs⟩ : ∃ cs, cs = pinBlk DS pan := ⟨_, rfl⟩
  rw [← hcs]
  have HDS := Aside0.mk hDS
  have HCS := Aside0.mk hcs
  clear hDS hcs
  go_enter Try.func20, Try.ntmps20
  go_wp2_with fail
  with_reducible refine (K1.out _).mono ?_
  rintro e w1 ⟨rfl, hb1⟩
  have B1 := Aside0.mk hb1
  clear hb1
  go_wp2_with fail
  with_reducible refine (K2.out _).mono ?_
  rintro e w2 ⟨rfl, hb2⟩
  have BK : Aside0 (w2.heap[w.heap.size]? = some (.cells #[.int .i64 0, .slice none 0 0, .int .i64 0] 38)) := ⟨blk_below (blk_below (blk_new w _) B1.out) hb2⟩
  have HB : Aside0 (Below w.heap.size w w2) := ⟨below_step (below_step ((Below.refl _ _).alloc (Nat.le_refl _) _) B1.out) hb2⟩
  clear hb2 B1
  go_wp2_with fail
  go_quiet (fail)
  go_wp2_with fail
  have HX := Aside0.mk ((HexOf.app (hex_one 3 (by omega)) (hex_one pin.size (by omega))).app (HexOf.dig HP.out))
  generalize hS0 : (⟨#[48, 49, 50, 51, 52, 53, 54, 55, 56, 57, 65, 66, 67, 68, 69, 70]⟩ : ByteArray).extract 3 4 ++ (⟨#[48, 49, 50, 51, 52, 53, 54, 55, 56, 57, 65, 66, 67, 68, 69, 70]⟩ : ByteArray).extract pin.size (pin.size + 1) ++ pin = S0
  have HX0 : Aside0 (HexOf S0 (3 :: (pin.size : Int) :: dgs pin)) := ⟨by rw [← hS0]; exact HX.out⟩
  clear hS0 HX
  have BK := Aside0.mk (blk_drewN BK.out nq)
  have HB := Aside0.mk (pw_below_drewN HB.out nq)
  generalize w2.drewN nq = W at BK HB ⊢
  have hz0 : S0.size = pin.size + 2 := by rw [HX0.out.size]; simp [dgs_length]
  go_loop [9, 10] (fun v9 v10 => ∃ (S : ByteArray) (j : Nat), v9 = .string S ∧ v10 = .int .i64 j ∧ S.size = pin.size + 2 + j ∧ j + pin.size ≤ 14 ∧ Aside0 (HexOf S (3 :: (pin.size : Int) :: dgs pin ++ fillL dr j)))
    (fun v9 _ => match v9 with | .string S => 16 - S.size | _ => 0)
  case atStart => exact ⟨S0, 0, rfl, rfl, by omega, by omega, ⟨by simpa [fillL] using HX0.out⟩⟩
  case round =>
    obtain ⟨S, j, rfl, rfl, hsz, hj, HS⟩ := hrel
    by_cases hlt : j + pin.size < 14
    · have c1 : (S.size : Int) < 16 := by omega
      have hjd : j < dr.length := by omega
      have c2 : ((j : Int) == (dr.length : Int)) = false := by rw [beq_eq_false_iff_ne]; omega
      obtain ⟨ad, hA, hcell0⟩ := Kd.at_int HDR.out (j : Int) (by omega) (by omega)
      subst hA
      have hcell := (HB.out.cell (World.block_lt_of_cell? w _ hcell0)).trans hcell0
      clear hcell0
      rw [Int.toNat_natCast, rd_nth] at hcell
      obtain ⟨x0, x1⟩ := HDB.out.nth j
      have HF := Aside0.mk (fillL_snoc dr j hjd)
      obtain ⟨x, hx⟩ : ∃ x, x = nth dr j := ⟨_, rfl⟩
      rw [← hx] at hcell x0 x1 HF
      clear hx
      obtain ⟨q, hq, hq6⟩ : ∃ q : Nat, x % 6 = (q : Int) ∧ q < 6 := ⟨(x % 6).toNat, by omega, by omega⟩
      rw [hq] at HF
      go_wp2_with fail
      have hs1 : ((⟨#[48, 49, 50, 51, 52, 53, 54, 55, 56, 57, 65, 66, 67, 68, 69, 70]⟩ : ByteArray).extract (10 + q) (10 + q + 1)).size = 1 := (hex_one (10 + q) (by omega)).size
      go_round
      case rel => exact ⟨_, j + 1, rfl, by go_num, by rw [ByteArray.size_append, hs1]; omega, by omega, ⟨by rw [HF.out, ← List.append_assoc]; exact HS.out.app (hex_one (10 + q) (by omega))⟩⟩
      case measure => simp only [ByteArray.size_append, hs1]; omega
    · have c1 : ¬ (S.size : Int) < 16 := by omega
      obtain rfl : j = 14 - pin.size := by omega
      rw [← HDS.out] at HS
      have hl16 : DS.length ≤ 16 := by rw [← HS.out.size]; omega
      clear HX0 hz0
      obtain ⟨a0, a1, a2, a3, a4, a5, a6, a7, ha⟩ := eight8 (outN (numH DS) 8) (outN_length _ 8 (by omega))
      obtain ⟨b0, b1, b2, b3, b4, b5, b6, b7, hb⟩ := eight8 (outN (numH (accD pan)) 8) (outN_length _ 8 (by omega))
      have K3 : Aside0 (∀ w, Calls Try.prog 55 #[.string S] w fun e w' => e = .returned (.agg #[.int .u8 a0, .int .u8 a1, .int .u8 a2, .int .u8 a3, .int .u8 a4, .int .u8 a5, .int .u8 a6, .int .u8 a7]) ∧ Below w.heap.size w w') := ⟨fun w => by have := impl_packed.at S DS w HS.out hl16; rw [ha] at this; exact this⟩
      have K4 : Aside0 (∀ w, Calls Try.prog 52 #[.string pan] w fun e w' => e = .returned (.agg #[.int .u8 b0, .int .u8 b1, .int .u8 b2, .int .u8 b3, .int .u8 b4, .int .u8 b5, .int .u8 b6, .int .u8 b7]) ∧ Below w.heap.size w w') := ⟨fun w => by have := impl_account.at pan w HQ.out q13 q19; rw [hb] at this; exact this⟩
      have KX := Aside0.mk (fun (g c : Nat) (w1 : World) (h : Blk w1 g .u8 84 ([a0, a1, a2, a3, a4, a5, a6, a7] ++ [b0, b1, b2, b3, b4, b5, b6, b7])) => xor8_two [a0, a1, a2, a3, a4, a5, a6, a7] [b0, b1, b2, b3, b4, b5, b6, b7] rfl (ha ▸ outN_bytes _) rfl g c 84 w1 h)
      have HC : Aside0 (xorL [a0, a1, a2, a3, a4, a5, a6, a7] [b0, b1, b2, b3, b4, b5, b6, b7] = pinBlk DS pan) := ⟨by unfold pinBlk; rw [ha, hb]⟩
      have HCL : Aside0 (cs.length = 8) := ⟨by rw [HCS.out, ← HC.out, xorL_length _ _ (by simp)]; rfl⟩
      rw [HC.out, ← HCS.out] at KX
      clear ha hb HC HS hl16 hsz hj hlt
      go_upto_region 14 with (first
        | (go_at_call 55; go_must (refine (K3.out _).mono ?_; rintro e w3 ⟨rfl, hb⟩; have BK3 := Aside0.mk (blk_below BK.out hb); have HB3 := Aside0.mk (below_step HB.out hb); clear hb))
        | (go_at_call 52; go_must (refine (K4.out _).mono ?_; rintro e w4 ⟨rfl, hb⟩; have BK4 := Aside0.mk (blk_below BK3.out hb); have HB4 := Aside0.mk (below_step HB3.out hb); clear hb))
        | (go_at_call 51; go_must (refine (KX.out _ _ _ ?bb).mono ?_; (case bb => exact (show Blk _ _ _ _ _ from blk_new _ (.cells (nums .u8 [a0, a1, a2, a3, a4, a5, a6, a7, b0, b1, b2, b3, b4, b5, b6, b7]).toArray 84))); rintro e w5 ⟨rfl, hb⟩; have BK5 := Aside0.mk (blk_below (blk_alloc BK4.out _) hb); have HB5 := Aside0.mk (below_step (HB4.out.alloc HB4.out.size _) hb); clear hb; have HN := Aside0.mk (new8 w5); have BK6 := Aside0.mk (setRow_other (w5.alloc (.cells #[.int .u8 0, .int .u8 0, .int .u8 0, .int .u8 0, .int .u8 0, .int .u8 0, .int .u8 0, .int .u8 0] 84)) w5.heap.size w.heap.size (nums .u8 cs).toArray (Nat.ne_of_lt (blk_lt BK5.out)) |>.trans (blk_alloc BK5.out _)); have HB6 := Aside0.mk (below_setRow (g := w5.heap.size) (HB5.out.alloc HB5.out.size (.cells #[.int .u8 0, .int .u8 0, .int .u8 0, .int .u8 0, .int .u8 0, .int .u8 0, .int .u8 0, .int .u8 0] 84)) HB5.out.size (nums .u8 cs).toArray); have HR6 := Aside0.mk (HN.out.setRow cs); have hne5 := Aside0.mk (Nat.ne_of_gt (blk_lt BK5.out)); have hge5 := Aside0.mk HB5.out.size))
        | (with_reducible refine wpList_store_blk rfl 84 (.tmp 12) (.tmp 75) rfl w5.heap.size rfl info8 rfl HN.out (by simp) HCL.out ?_))
      generalize (w5.alloc (.cells #[.int .u8 0, .int .u8 0, .int .u8 0, .int .u8 0, .int .u8 0, .int .u8 0, .int .u8 0, .int .u8 0] 84)).setRow w5.heap.size (nums .u8 cs).toArray = W6 at BK6 HB6 HR6 ⊢
      have z0 : W6.cell? ⟨w.heap.size, 0, none⟩ = some (.int .i64 0) := (blk_cell BK6.out 0).trans rfl
      have z1 : W6.cell? ⟨w.heap.size, 1, none⟩ = some (.slice none 0 0) := (blk_cell BK6.out 1).trans rfl
      have z2 : W6.cell? ⟨w.heap.size, 2, none⟩ = some (.int .i64 0) := (blk_cell BK6.out 2).trans rfl
      have f0 := blk_frozen BK6.out 0
      have f1 := blk_frozen BK6.out 1
      have f2 := blk_frozen BK6.out 2
      go_simp
      go_wp2
      refine bodyPost_ret (results_cell_row rfl _ _ w.heap.size 38 _ (0, 0) _ rfl (blk_set (blk_set (blk_set BK6.out _ _) _ _) _ _) Try.underlying38 rfl infoPB) rfl ⟨_, rfl, ((((HR6.out.far (p := ⟨w.heap.size, 0, none⟩) hne5.out _).far (p := ⟨w.heap.size, 1, none⟩) hne5.out _).far (p := ⟨w.heap.size, 2, none⟩) hne5.out _).R hge5.out HCL.out (by omega)), ((HB6.out.setCell (p := ⟨w.heap.size, 0, none⟩) (Nat.le_refl _) _).setCell (p := ⟨w.heap.size, 1, none⟩) (Nat.le_refl _) _).setCell (p := ⟨w.heap.size, 2, none⟩) (Nat.le_refl _) _⟩
set_option maxHeartbeats 4000000 in
set_option maxRecDepth 100000 in
theorem impl_MakePin.f3s (pin pan : ByteArray) (A3 : Option Addr) (dr : List Int) (c3 : Nat) (w : World) (hdr : Kd.C (Kd.int .u8) w A3 dr.length dr) (hdb : Bytes dr) (hdl : dr.length < 14 - pin.size) (h1 : digOk pin 4 12 = true) (h2 : digOk pan 13 19 = true) (p4 : 4 ≤ pin.size) (p12 : pin.size ≤ 12) (q19 : pan.size ≤ 19) (hpd : allDg pin = true) :
    Calls Try.prog 20 #[.int .i64 3, .string pin, .string pan, .slice A3 dr.length c3] w fun e w' => e = .returned (.agg #[.int .i64 2, .slice none 0 0, .int .i64 0]) ∧ Below w.heap.size w w' := by
  have K1 : Aside0 (∀ w, Calls Try.prog 49 #[.string pin, .int .i64 4, .int .i64 12] w fun e w' => e = .returned (.bool true) ∧ Below w.heap.size w w') := ⟨fun w => by rw [← h1]; exact impl_digits.calls pin 4 12 w (by omega)⟩
  have K2 : Aside0 (∀ w, Calls Try.prog 49 #[.string pan, .int .i64 13, .int .i64 19] w fun e w' => e = .returned (.bool true) ∧ Below w.heap.size w w') := ⟨fun w => by rw [← h2]; exact impl_digits.calls pan 13 19 w (by omega)⟩
  have HP := Aside0.mk hpd
  have HDR := Aside0.mk hdr
  have HDB := Aside0.mk hdb
  clear h1 h2 hpd hdr hdb
  go_enter Try.func20, Try.ntmps20
  go_wp2_with fail
  with_reducible refine (K1.out _).mono ?_
  rintro e w1 ⟨rfl, hb1⟩
  have B1 := Aside0.mk hb1
  clear hb1
  go_wp2_with fail
  with_reducible refine (K2.out _).mono ?_
  rintro e w2 ⟨rfl, hb2⟩
  have BK : Aside0 (w2.heap[w.heap.size]? = some (.cells #[.int .i64 0, .slice none 0 0, .int .i64 0] 38)) := ⟨blk_below (blk_below (blk_new w _) B1.out) hb2⟩
  have HB : Aside0 (Below w.heap.size w w2) := ⟨below_step (below_step ((Below.refl _ _).alloc (Nat.le_refl _) _) B1.out) hb2⟩
  clear hb2 B1
  go_wp2_with fail
  go_quiet (fail)
  go_wp2_with fail
  have HX := Aside0.mk ((HexOf.app (hex_one 3 (by omega)) (hex_one pin.size (by omega))).app (HexOf.dig HP.out))
  generalize hS0 : (⟨#[48, 49, 50, 51, 52, 53, 54, 55, 56, 57, 65, 66, 67, 68, 69, 70]⟩ : ByteArray).extract 3 4 ++ (⟨#[48, 49, 50, 51, 52, 53, 54, 55, 56, 57, 65, 66, 67, 68, 69, 70]⟩ : ByteArray).extract pin.size (pin.size + 1) ++ pin = S0
  have HX0 : Aside0 (HexOf S0 (3 :: (pin.size : Int) :: dgs pin)) := ⟨by rw [← hS0]; exact HX.out⟩
  clear hS0 HX
  have BK := Aside0.mk (blk_drewN BK.out nq)
  have HB := Aside0.mk (pw_below_drewN HB.out nq)
  generalize w2.drewN nq = W at BK HB ⊢
  have hz0 : S0.size = pin.size + 2 := by rw [HX0.out.size]; simp [dgs_length]
  go_loop [9, 10] (fun v9 v10 => ∃ (S : ByteArray) (j : Nat), v9 = .string S ∧ v10 = .int .i64 j ∧ S.size = pin.size + 2 + j ∧ j ≤ dr.length ∧ Aside0 (HexOf S (3 :: (pin.size : Int) :: dgs pin ++ fillL dr j)))
    (fun v9 _ => match v9 with | .string S => 16 - S.size | _ => 0)
  case atStart => exact ⟨S0, 0, rfl, rfl, by omega, by omega, ⟨by simpa [fillL] using HX0.out⟩⟩
  case round =>
    obtain ⟨S, j, rfl, rfl, hsz, hj, HS⟩ := hrel
    have c1 : (S.size : Int) < 16 := by omega
    by_cases hjd : j < dr.length
    · have c2 : ((j : Int) == (dr.length : Int)) = false := by rw [beq_eq_false_iff_ne]; omega
      obtain ⟨ad, hA, hcell0⟩ := Kd.at_int HDR.out (j : Int) (by omega) (by omega)
      subst hA
      have hcell := (HB.out.cell (World.block_lt_of_cell? w _ hcell0)).trans hcell0
      clear hcell0
      rw [Int.toNat_natCast, rd_nth] at hcell
      obtain ⟨x0, x1⟩ := HDB.out.nth j
      have HF := Aside0.mk (fillL_snoc dr j hjd)
      obtain ⟨x, hx⟩ : ∃ x, x = nth dr j := ⟨_, rfl⟩
      rw [← hx] at hcell x0 x1 HF
      clear hx
      obtain ⟨q, hq, hq6⟩ : ∃ q : Nat, x % 6 = (q : Int) ∧ q < 6 := ⟨(x % 6).toNat, by omega, by omega⟩
      rw [hq] at HF
      go_wp2_with fail
      have hs1 : ((⟨#[48, 49, 50, 51, 52, 53, 54, 55, 56, 57, 65, 66, 67, 68, 69, 70]⟩ : ByteArray).extract (10 + q) (10 + q + 1)).size = 1 := (hex_one (10 + q) (by omega)).size
      go_round
      case rel => exact ⟨_, j + 1, rfl, by go_num, by rw [ByteArray.size_append, hs1]; omega, by omega, ⟨by rw [HF.out, ← List.append_assoc]; exact HS.out.app (hex_one (10 + q) (by omega))⟩⟩
      case measure => simp only [ByteArray.size_append, hs1]; omega
    · obtain rfl : j = dr.length := by omega
      have c2 : ((dr.length : Int) == (dr.length : Int)) = true := by rw [beq_iff_eq]
      have z0 : W.cell? ⟨w.heap.size, 0, none⟩ = some (.int .i64 0) := (blk_cell BK.out 0).trans rfl
      have z1 : W.cell? ⟨w.heap.size, 1, none⟩ = some (.slice none 0 0) := (blk_cell BK.out 1).trans rfl
      have z2 : W.cell? ⟨w.heap.size, 2, none⟩ = some (.int .i64 0) := (blk_cell BK.out 2).trans rfl
      have f0 := blk_frozen BK.out 0
      have f1 := blk_frozen BK.out 1
      have f2 := blk_frozen BK.out 2
      clear HS HX0
      go_wp2
      refine bodyPost_ret (results_cell_row rfl _ _ w.heap.size 38 _ (0, 0) _ rfl (blk_set (blk_set (blk_set BK.out _ _) _ _) _ _) Try.underlying38 rfl infoPB) rfl ⟨rfl, ((HB.out.setCell (p := ⟨w.heap.size, 0, none⟩) (Nat.le_refl _) _).setCell (p := ⟨w.heap.size, 1, none⟩) (Nat.le_refl _) _).setCell (p := ⟨w.heap.size, 2, none⟩) (Nat.le_refl _) _⟩

set_option maxHeartbeats 4000000 in
set_option maxRecDepth 100000 in
theorem impl_MakePin.bad0 (f : Int) (pin pan : ByteArray) (A3 : Option Addr) (n3 c3 : Nat) (w : World) (h0 : f ≠ 0) (h3 : f ≠ 3) :
    Calls Try.prog 20 #[.int .i64 f, .string pin, .string pan, .slice A3 n3 c3] w fun e w' => e = .returned (.agg #[.int .i64 1, .slice none 0 0, .int .i64 0]) ∧ Below w.heap.size w w' := by
  have c0 : (f != 0) = true := by rw [bne_iff_ne]; exact h0
  have c3 : (f != 3) = true := by rw [bne_iff_ne]; exact h3
  clear h0 h3
  go_enter Try.func20, Try.ntmps20
  go_wp2_with fail
  refine bodyPost_ret (results_cell_row rfl _ _ w.heap.size 38 _ (0, 0) _ rfl (blk_new w _) Try.underlying38 rfl infoPB) rfl ⟨rfl, (Below.refl _ _).alloc (Nat.le_refl _) _⟩
set_option maxHeartbeats 4000000 in
set_option maxRecDepth 100000 in
theorem impl_MakePin.bad1 (f : Int) (hf : f = 0 ∨ f = 3) (pin pan : ByteArray) (A3 : Option Addr) (n3 c3 : Nat) (w : World) (hp : pin.size ≤ 1000000000) (h1 : digOk pin 4 12 = false) :
    Calls Try.prog 20 #[.int .i64 f, .string pin, .string pan, .slice A3 n3 c3] w fun e w' => e = .returned (.agg #[.int .i64 1, .slice none 0 0, .int .i64 0]) ∧ Below w.heap.size w w' := by
  have K1 : Aside0 (∀ w, Calls Try.prog 49 #[.string pin, .int .i64 4, .int .i64 12] w fun e w' => e = .returned (.bool false) ∧ Below w.heap.size w w') := ⟨fun w => by rw [← h1]; exact impl_digits.calls pin 4 12 w (by omega)⟩
  clear h1
  have BK : Aside0 ((w.alloc (.cells #[.int .i64 0, .slice none 0 0, .int .i64 0] 38)).heap[w.heap.size]? = some (.cells #[.int .i64 0, .slice none 0 0, .int .i64 0] 38)) := ⟨blk_new w _⟩
  have HB : Aside0 (Below w.heap.size w (w.alloc (.cells #[.int .i64 0, .slice none 0 0, .int .i64 0] 38))) := ⟨(Below.refl _ _).alloc (Nat.le_refl _) _⟩
  rcases hf with rfl | rfl
  all_goals
    go_enter Try.func20, Try.ntmps20
    go_wp2_with fail
    with_reducible refine (K1.out _).mono ?_
    rintro e wX ⟨rfl, hb1⟩
    have BK1 := Aside0.mk (blk_below BK.out hb1)
    have HB1 := Aside0.mk (below_step HB.out hb1)
    clear hb1
    have z0 : wX.cell? ⟨w.heap.size, 0, none⟩ = some (.int .i64 0) := (blk_cell BK1.out 0).trans rfl
    have z1 : wX.cell? ⟨w.heap.size, 1, none⟩ = some (.slice none 0 0) := (blk_cell BK1.out 1).trans rfl
    have z2 : wX.cell? ⟨w.heap.size, 2, none⟩ = some (.int .i64 0) := (blk_cell BK1.out 2).trans rfl
    have f0 := blk_frozen BK1.out 0
    have f1 := blk_frozen BK1.out 1
    have f2 := blk_frozen BK1.out 2
    go_wp2
    exact bodyPost_ret (results_cell_row rfl _ _ w.heap.size 38 _ (0, 0) _ rfl (blk_set (blk_set (blk_set BK1.out _ _) _ _) _ _) Try.underlying38 rfl infoPB) rfl ⟨rfl, ((HB1.out.setCell (p := ⟨w.heap.size, 0, none⟩) (Nat.le_refl _) _).setCell (p := ⟨w.heap.size, 1, none⟩) (Nat.le_refl _) _).setCell (p := ⟨w.heap.size, 2, none⟩) (Nat.le_refl _) _⟩
set_option maxHeartbeats 4000000 in
set_option maxRecDepth 100000 in
theorem impl_MakePin.bad2 (f : Int) (hf : f = 0 ∨ f = 3) (pin pan : ByteArray) (A3 : Option Addr) (n3 c3 : Nat) (w : World) (hp : pin.size ≤ 1000000000) (hq : pan.size ≤ 1000000000) (h1 : digOk pin 4 12 = true) (h2 : digOk pan 13 19 = false) :
    Calls Try.prog 20 #[.int .i64 f, .string pin, .string pan, .slice A3 n3 c3] w fun e w' => e = .returned (.agg #[.int .i64 1, .slice none 0 0, .int .i64 0]) ∧ Below w.heap.size w w' := by
  have K1 : Aside0 (∀ w, Calls Try.prog 49 #[.string pin, .int .i64 4, .int .i64 12] w fun e w' => e = .returned (.bool true) ∧ Below w.heap.size w w') := ⟨fun w => by rw [← h1]; exact impl_digits.calls pin 4 12 w (by omega)⟩
  have K2 : Aside0 (∀ w, Calls Try.prog 49 #[.string pan, .int .i64 13, .int .i64 19] w fun e w' => e = .returned (.bool false) ∧ Below w.heap.size w w') := ⟨fun w => by rw [← h2]; exact impl_digits.calls pan 13 19 w (by omega)⟩
  clear h1 h2
  have BK : Aside0 ((w.alloc (.cells #[.int .i64 0, .slice none 0 0, .int .i64 0] 38)).heap[w.heap.size]? = some (.cells #[.int .i64 0, .slice none 0 0, .int .i64 0] 38)) := ⟨blk_new w _⟩
  have HB : Aside0 (Below w.heap.size w (w.alloc (.cells #[.int .i64 0, .slice none 0 0, .int .i64 0] 38))) := ⟨(Below.refl _ _).alloc (Nat.le_refl _) _⟩
  rcases hf with rfl | rfl
  all_goals
    go_enter Try.func20, Try.ntmps20
    go_wp2_with fail
    with_reducible refine (K1.out _).mono ?_
    rintro e w1 ⟨rfl, hb1⟩
    have BK0 := Aside0.mk (blk_below BK.out hb1)
    have HB0 := Aside0.mk (below_step HB.out hb1)
    clear hb1
    go_wp2_with fail
    with_reducible refine (K2.out _).mono ?_
    rintro e wX ⟨rfl, hb1⟩
    have BK1 := Aside0.mk (blk_below BK0.out hb1)
    have HB1 := Aside0.mk (below_step HB0.out hb1)
    clear hb1
    have z0 : wX.cell? ⟨w.heap.size, 0, none⟩ = some (.int .i64 0) := (blk_cell BK1.out 0).trans rfl
    have z1 : wX.cell? ⟨w.heap.size, 1, none⟩ = some (.slice none 0 0) := (blk_cell BK1.out 1).trans rfl
    have z2 : wX.cell? ⟨w.heap.size, 2, none⟩ = some (.int .i64 0) := (blk_cell BK1.out 2).trans rfl
    have f0 := blk_frozen BK1.out 0
    have f1 := blk_frozen BK1.out 1
    have f2 := blk_frozen BK1.out 2
    go_wp2
    exact bodyPost_ret (results_cell_row rfl _ _ w.heap.size 38 _ (0, 0) _ rfl (blk_set (blk_set (blk_set BK1.out _ _) _ _) _ _) Try.underlying38 rfl infoPB) rfl ⟨rfl, ((HB1.out.setCell (p := ⟨w.heap.size, 0, none⟩) (Nat.le_refl _) _).setCell (p := ⟨w.heap.size, 1, none⟩) (Nat.le_refl _) _).setCell (p := ⟨w.heap.size, 2, none⟩) (Nat.le_refl _) _⟩
end Go.Proofs.Ytiejallnkgllnaa
