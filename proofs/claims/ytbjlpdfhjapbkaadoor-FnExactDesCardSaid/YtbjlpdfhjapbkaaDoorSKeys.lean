/- Contract of spec.l1Keys: the 16 keys as rows of bits. Condition: 8 bytes. -/
import Derived.Test.YtbjlpdfhjapbkaaDoorSRound
import Derived.Test.YtbjlpdfhjapbkaaDoorRoundKeys
import Derived.Deep.RegionLaw
import Derived.Deep.CutRange
namespace Go.Proofs.YtbjlpdfhjapbkaaDoor
open Go.RowKit Go.Proofs.YtbjlpdfhjapbkaaDoorW.PrintWords Go.Proofs.YtbjlpdfhjapbkaaDoorW.PrintLast Go.Proofs.YtbjlpdfhjapbkaaDoorW.PrintMore Go.Proofs.YtbjlpdfhjapbkaaDoor.D Go.Proofs.YtbjlpdfhjapbkaaDoor.B
set_option linter.unusedVariables false

theorem info22 : (Tryd.prog.info? 22).map (fun i => (i.zero, i.size, i.bytes)) = some (some (.slice none 0 0), 1, 24) := by kernel_rfl
theorem C_grown {w w1 : World} {k : IntKind} {ad : Addr} {n : Nat} {xs : List Int} {row : Option Nat} (h : Kd.C (Kd.int k) w (some ad) n xs) (hg : w.grownBy w1 row) (hne : some ad.block ≠ row) : Kd.C (Kd.int k) w1 (some ad) n xs := by
  obtain ⟨h1, h2, h3⟩ := h
  refine ⟨h1, h2, fun hn => ?_⟩
  obtain ⟨ad', e, hc⟩ := h3 hn
  cases e
  refine ⟨ad, rfl, fun j p hp => ?_⟩
  obtain ⟨c, hl, hk, hcell⟩ := hc j p hp
  refine ⟨c, hl, hk, fun i u hu => hg.cell (hcell i u hu) ?_⟩
  have : (ad.add (j * (Kd.int k).sz + i)).block = ad.block := by unfold Addr.add; split <;> rfl
  rw [this]
  exact hne
theorem C_at {w : World} {k : IntKind} {g o n : Nat} {xs : List Int} (h : Kd.C (Kd.int k) w (some ⟨g, o, none⟩) n xs) (i m : Nat) (hm : m + i ≤ n) : Kd.C (Kd.int k) w (some ⟨g, o + i, none⟩) m ((xs.drop i).take m) := by
  obtain ⟨h1, h2, h3⟩ := h
  refine ⟨by rw [List.length_take, List.length_drop]; omega, by omega, fun hn => ?_⟩
  obtain ⟨ad', e, hc⟩ := h3 (by omega)
  cases e
  refine ⟨_, rfl, fun j p hp => ?_⟩
  have hj : j < m := by
    rcases Nat.lt_or_ge j m with h' | h'
    · exact h'
    · rw [List.getElem?_eq_none (by rw [List.length_take]; omega)] at hp; cases hp
  rw [List.getElem?_take_of_lt hj, List.getElem?_drop] at hp
  obtain ⟨c, hl, hk, hcell⟩ := hc (i + j) p hp
  refine ⟨c, hl, hk, fun q u hu => ?_⟩
  have := hcell q u hu
  have hs : (Kd.int k).sz = 1 := rfl
  rw [Addr.add_mid] at this ⊢
  rw [hs] at this ⊢
  rw [show o + i + (j * 1 + q) = o + ((i + j) * 1 + q) by omega]
  exact this

theorem bytes_part (gc oc cc n : Nat) (ci : List Int) (hl : ci.length = 28) (hn : n ≤ 28) (w : World) (h : Kd.C (Kd.int .u8) w (some ⟨gc, oc, none⟩) 28 ci) (hcc : 28 ≤ cc) :
    Calls Tryd.prog 47 #[.slice (some ⟨gc, oc + n, none⟩) (28 - n) (cc - n)] w fun e w' => ∃ v0_ : Value, e = .returned (v0_) ∧ Kd.R (Kd.int .u8) 5 w' w.heap.size (fun _ => True) v0_ (ci.drop n) ∧ Below w.heap.size w w' := by
  have hlen : (ci.drop n).length = 28 - n := by rw [List.length_drop, hl]
  have hC := C_at h n (28 - n) (by omega)
  rw [List.take_of_length_le (by omega)] at hC
  have := spec_l1Bytes.calls (some ⟨gc, oc + n, none⟩) (cc - n) (ci.drop n) (ci.drop n) w (by rw [hlen]; exact hC) (by omega) (by unfold spec_l1Bytes.f; rw [if_pos (by omega)])
  rwa [hlen] at this
theorem turn_row {w0 w : World} {v : Value} {ci : List Int} {n : Nat} (h : Kd.R (Kd.int .u8) 5 w w0.heap.size (fun _ => True) v (ci.drop n ++ ci.take n)) (hl : ci.length = 28) (hn : n ≤ 28) (hb : Below w0.heap.size w0 w) :
    ∃ g cap : Nat, v = .slice (some ⟨g, 0, none⟩) 28 cap ∧ 28 ≤ cap ∧ Aside0 (w0.heap.size ≤ g ∧ Kd.C (Kd.int .u8) w (some ⟨g, 0, none⟩) 28 (turnB n ci)) ∧ Aside0 (Below w0.heap.size w0 w) := by
  have hlen : (ci.drop n ++ ci.take n).length = 28 := by rw [List.length_append, List.length_drop, List.length_take, hl]; omega
  obtain ⟨A, cap, e⟩ := Kd.R_slice h
  subst e
  obtain ⟨g, eg, hg⟩ := R_own h (by omega)
  subst eg
  have hr := (Kd.R_reads' h).2
  rw [hlen] at hr ⊢
  exact ⟨g, cap, rfl, hr.1, ⟨hg, hr.2⟩, ⟨hb⟩⟩
theorem bytes_whole (g cc : Nat) (ci : List Int) (hl : ci.length = 28) (w : World) (h : Kd.C (Kd.int .u8) w (some ⟨g, 0, none⟩) 28 ci) (hcc : 28 ≤ cc) :
    Calls Tryd.prog 47 #[.slice (some ⟨g, 0, none⟩) 28 cc] w fun e w' => ∃ v0_ : Value, e = .returned (v0_) ∧ Kd.R (Kd.int .u8) 5 w' w.heap.size (fun _ => True) v0_ ci ∧ Below w.heap.size w w' := by
  have := spec_l1Bytes.calls (some ⟨g, 0, none⟩) cc ci ci w (by rw [hl]; exact h) (by omega) (by unfold spec_l1Bytes.f; rw [if_pos (by omega)])
  rwa [hl] at this
theorem pick56 (A0 : Option Addr) (c0 : Nat) (l0 : List Int) (hl : l0.length = 56) (A1 : Option Addr) (c1 : Nat) (l1 : List Int) (r : List Int) (w : World) (hr0 : Kd.C (Kd.int .u8) w A0 56 l0) (hc0 : 56 ≤ c0) (hr1 : Kd.C (Kd.int .i64) w A1 l1.length l1) (hc1 : l1.length ≤ c1) (h : spec_l1Pick.f 100 l0 l1 = some r) :
    Calls Tryd.prog 42 #[.slice A0 56 c0, .slice A1 l1.length c1] w fun e w' => ∃ v0_ : Value, e = .returned (v0_) ∧ Kd.R (Kd.int .u8) 5 w' w.heap.size (fun _ => True) v0_ r ∧ Below w.heap.size w w' := by
  have := spec_l1Pick.calls 100 A0 c0 l0 A1 c1 l1 r w (by rw [hl]; exact hr0) (by omega) hr1 hc1 h
  rwa [hl] at this
theorem C_lt {w : World} {k : IntKind} {g o n : Nat} {xs : List Int} (h : Kd.C (Kd.int k) w (some ⟨g, o, none⟩) n xs) (hn : 0 < n) : g < w.heap.size := by
  obtain ⟨h1, h2, h3⟩ := h
  subst h1
  obtain ⟨ad, e, hc⟩ := C_cells (show Kd.C (Kd.int k) w (some ⟨g, o, none⟩) xs.length xs from ⟨rfl, h2, h3⟩) hn
  cases e
  have h0 : (nums k xs)[0]? = some (.int k (xs[0]'hn)) := by simp [nums, hn]
  have := World.block_lt_of_cell? w _ (hc 0 _ h0)
  exact this
set_option maxHeartbeats 4000000 in
theorem spec_l1Keys.calls0 (A0 : Option Addr) (c0 : Nat) (l0 : List Int) (w : World) (hr0 : Kd.C (Kd.int .u8) w A0 l0.length l0) (hc0 : l0.length ≤ c0) (h0 : l0.length = 8) (hb0 : Bytes l0) :
    Calls Tryd.prog 41 #[.slice A0 l0.length c0] w fun e w' => ∃ v0_ : Value, e = .returned (v0_) ∧ Kd.R (Kd.slice 5 (Kd.int .u8)) 22 w' w.heap.size (fun _ => True) v0_ (keysB l0) ∧ Below w.heap.size w w' := by
  have HR0 := Aside0.mk hr0
  have HC0 := Aside0.mk hc0
  have hbits := Aside0.mk (spec_bits_eq l0 (by omega) hb0 100 (by omega))
  have hl64 : (bitsOf l0).length = 64 := by rw [bitsOf_length, h0]
  have hp1 := Aside0.mk (spec_pick_eq (bitsOf l0) tPC1 (by omega) (by decide) (by rw [hl64]; exact within_pc1) 100 (by decide))
  obtain ⟨cd, hcd⟩ : ∃ cd, cd = pickB (bitsOf l0) tPC1 := ⟨_, rfl⟩
  have hcdb : Bits cd := hcd ▸ pickB_bits (bitsOf_bits _) _
  have hcdl : cd.length = 56 := by rw [hcd, pickB_length]; rfl
  have hkb : keysB l0 = keysFrom turnsL (cd.take 28) (cd.drop 28) := by rw [hcd]; rfl
  rw [← hcd] at hp1
  have HCD := Aside0.mk hcdl
  have hcb : Aside0 (Bits (cd.take 28) ∧ (cd.take 28).length = 28) := ⟨hcdb.take _, by rw [List.length_take]; omega⟩
  have hdb : Aside0 (Bits (cd.drop 28) ∧ (cd.drop 28).length = 28) := ⟨hcdb.drop _, by rw [List.length_drop]; omega⟩
  have htk : (cd.drop 0).take 28 = cd.take 28 := by simp
  have htd : (cd.drop 28).take 28 = cd.drop 28 := List.take_of_length_le (by rw [List.length_drop]; omega)
  rw [hkb]
  obtain ⟨c, hc⟩ : ∃ c, c = cd.take 28 := ⟨_, rfl⟩
  obtain ⟨d, hd⟩ : ∃ d, d = cd.drop 28 := ⟨_, rfl⟩
  rw [← hc] at hcb htk ⊢
  rw [← hd] at hdb ⊢
  have HTK : Aside0 ((cd.drop 0).take 28 = c ∧ (cd.drop 28).take 28 = d) := ⟨htk, by rw [htd, hd]⟩
  clear hr0 hc0 h0 hb0 hl64 hcd hcdb hcdl hkb hc hd htk htd
  go_enter Tryd.func41, Tryd.ntmps41
  go_wp2_with (first | (go_at_call 43; go_must (refine (spec_l1Bits.calls 100 _ _ l0 _ _ HR0.out HC0.out hbits.out).mono ?_; rintro e w1 ⟨v1, rfl, hR, hb⟩; obtain ⟨Ab, cb, eb⟩ := Kd.R_slice hR; subst eb; have HB := Aside0.mk (Kd.R_reads' hR).2; have B1 := Aside0.mk hb; clear hR hb)) | (go_at_call 68; go_must (refine (spec_l1PC1.calls tPC1 _ rfl).mono ?_; rintro e w2 ⟨v2, rfl, hR, hb⟩; obtain ⟨At, ct, et⟩ := Kd.R_slice hR; subst et; have HT := Aside0.mk (Kd.R_reads' hR).2; have HB2 := Aside0.mk (Kd.C_below HB.out.2 hb); have B2 := Aside0.mk (below_step B1.out hb); clear hR hb)) | (go_at_call 42; go_must (refine (spec_l1Pick.calls 100 _ _ (bitsOf l0) _ _ tPC1 _ _ HB2.out HB.out.1 HT.out.2 HT.out.1 hp1.out).mono ?_; rintro e w3 ⟨v3, rfl, hR, hb⟩; obtain ⟨Ap, cp, ep⟩ := Kd.R_slice hR; subst ep; obtain ⟨gp, egp, _⟩ := R_own hR (by rw [HCD.out]; decide); subst egp; have HP := Aside0.mk (Kd.R_reads' hR).2; have B3 := Aside0.mk (below_step B2.out hb); clear hR hb; have hcp := HP.out.1; rw [HCD.out] at hcp ⊢)))
  have hT0 : Blk (w3.alloc (.cells #[.int .i64 1, .int .i64 1, .int .i64 2, .int .i64 2, .int .i64 2, .int .i64 2, .int .i64 2, .int .i64 2, .int .i64 1, .int .i64 2, .int .i64 2, .int .i64 2, .int .i64 2, .int .i64 2, .int .i64 2, .int .i64 1] 3)) w3.heap.size .i64 3 (turnsL.map fun (n : Nat) => (n : Int)) := blk_new w3 (.cells (nums .i64 (turnsL.map fun (n : Nat) => (n : Int))).toArray 3)
  have hB0 : Below w.heap.size w (w3.alloc (.cells #[.int .i64 1, .int .i64 1, .int .i64 2, .int .i64 2, .int .i64 2, .int .i64 2, .int .i64 2, .int .i64 2, .int .i64 1, .int .i64 2, .int .i64 2, .int .i64 2, .int .i64 2, .int .i64 2, .int .i64 2, .int .i64 1] 3)) := B3.out.alloc B3.out.size _
  have hP0 := Kd.C_alloc HP.out.2 (.cells #[.int .i64 1, .int .i64 1, .int .i64 2, .int .i64 2, .int .i64 2, .int .i64 2, .int .i64 2, .int .i64 2, .int .i64 1, .int .i64 2, .int .i64 2, .int .i64 2, .int .i64 2, .int .i64 2, .int .i64 2, .int .i64 1] 3)
  rw [HCD.out] at hP0
  have hc1 := C_at hP0 0 28 (by omega)
  have hd1 := C_at hP0 28 28 (by omega)
  rw [HTK.out.1] at hc1
  rw [HTK.out.2, Nat.zero_add] at hd1
  obtain ⟨gt, hgt⟩ : ∃ gt, gt = w3.heap.size := ⟨_, rfl⟩
  rw [← hgt] at hT0 ⊢
  have HT0 := Aside0.mk hT0
  have HB0 := Aside0.mk hB0
  have HCc := Aside0.mk hc1
  have HCd := Aside0.mk hd1
  clear hT0 hB0 hP0 hc1 hd1 hgt
  go_loopw [4, 5, 6, 8, 19] (fun v4 v5 v6 v8 v19 wr => ∃ (i gc oc cc gd od cdd : Nat), i ≤ 16 ∧ v19 = .int .i64 i ∧ v4 = .slice (some ⟨gc, oc, none⟩) 28 cc ∧ v5 = .slice (some ⟨gd, od, none⟩) 28 cdd ∧ 28 ≤ cc ∧ 28 ≤ cdd ∧
      Aside0 (Kd.C (Kd.int .u8) wr (some ⟨gc, oc, none⟩) 28 (turnsTo (turnsL.take i) c)) ∧ Aside0 (Kd.C (Kd.int .u8) wr (some ⟨gd, od, none⟩) 28 (turnsTo (turnsL.take i) d)) ∧
      Aside0 (Kd.R (Kd.slice 5 (Kd.int .u8)) 22 wr w.heap.size (fun _ => True) v6 (keysFrom (turnsL.take i) c d)) ∧ Aside0 (∀ g, v6.ownBlock = some g → g ≠ gc ∧ g ≠ gd ∧ g ≠ gt) ∧
      Aside0 (Blk wr gt .i64 3 (turnsL.map fun (n : Nat) => (n : Int))) ∧ Aside0 (Below w.heap.size w wr))
    (fun _ _ _ _ v19 _ => 16 - (intOf v19).toNat)
  case atStart => exact ⟨0, gp, 0, cp, gp, 28, cp - 28, by omega, rfl, rfl, rfl, by omega, by omega, HCc, HCd, ⟨Kd.R_nil _ _ _ _ _⟩, ⟨fun g hg => by cases hg⟩, HT0, HB0⟩
  case round =>
    obtain ⟨i, gc, oc, cc, gd, od, cdd, hi, rfl, rfl, rfl, hcc, hcdd, G1, G2, G3, G4, G5, G6⟩ := hrel
    by_cases hlt : i < 16
    · have hcell := G5.out.cell i hlt
      have hnth : nth (turnsL.map fun (n : Nat) => (n : Int)) i = (turnAt i : Int) := by
        have : ∀ j : Fin 16, nth (turnsL.map fun (n : Nat) => (n : Int)) j.val = (turnAt j.val : Int) := by decide
        exact this ⟨i, hlt⟩
      rw [hnth] at hcell
      have hst := Aside0.mk (show keysFrom (turnsL.take (i + 1)) c d = keysFrom (turnsL.take i) c d ++ [pickB (turnB (turnAt i) (turnsTo (turnsL.take i) c) ++ turnB (turnAt i) (turnsTo (turnsL.take i) d)) tPC2] by rw [turns_take i hlt]; exact keysFrom_snoc _ _ c d)
      have ec : turnsTo (turnsL.take (i + 1)) c = turnB (turnAt i) (turnsTo (turnsL.take i) c) := by rw [turns_take i hlt, turnsTo_snoc]
      have ed : turnsTo (turnsL.take (i + 1)) d = turnB (turnAt i) (turnsTo (turnsL.take i) d) := by rw [turns_take i hlt, turnsTo_snoc]
      have hgc := turnsTo_good (turnsL.take i) c hcb.out.1
      have hgd := turnsTo_good (turnsL.take i) d hdb.out.1
      rw [hcb.out.2] at hgc
      rw [hdb.out.2] at hgd
      have hn := turnAt_12 i hlt
      have EC := Aside0.mk ec
      have ED := Aside0.mk ed
      have HGC := Aside0.mk hgc
      have HGD := Aside0.mk hgd
      obtain ⟨n, hnn⟩ : ∃ n, n = turnAt i := ⟨_, rfl⟩
      rw [← hnn] at hn hcell hst EC ED
      obtain ⟨ci, hci⟩ : ∃ ci, ci = turnsTo (turnsL.take i) c := ⟨_, rfl⟩
      obtain ⟨di, hdi⟩ : ∃ di, di = turnsTo (turnsL.take i) d := ⟨_, rfl⟩
      rw [← hci] at hst EC HGC G1
      rw [← hdi] at hst ED HGD G2
      clear hnth ec ed hgc hgd hnn hci hdi
      have hn0 : 0 < n ∧ n ≤ 2 := by omega
      obtain ⟨hn1, hn2⟩ := hn0
      have i0 : (0 : Int) ≤ (n : Int) := by omega
      have i1 : (n : Int) ≤ 28 := by omega
      have i2 : ¬ cc = n := by omega
      have i4 : n ≤ cc := by omega
      have i5 : n ≤ cdd := by omega
      have e28 : Aside0 ((ci.drop n).length = 28 - n) := ⟨by rw [List.length_drop, HGC.out.2]⟩
      have e28d : Aside0 ((di.drop n).length = 28 - n) := ⟨by rw [List.length_drop, HGD.out.2]⟩
      have i3 : ¬ cdd = n := by omega
      clear hn
      go_upto_region 8 with fail
      have KB := Aside0.mk (fun (w1 : World) (h : Kd.C (Kd.int .u8) w1 (some ⟨gc, oc, none⟩) 28 ci) => bytes_part gc oc cc n ci HGC.out.2 (by omega) w1 h hcc)
      go_cut [4] from 20 to 48 (fun s4 wc => ∃ g cap : Nat, s4 = .slice (some ⟨g, 0, none⟩) 28 cap ∧ 28 ≤ cap ∧ Aside0 (wr.heap.size ≤ g ∧ Kd.C (Kd.int .u8) wc (some ⟨g, 0, none⟩) 28 (turnB n ci)) ∧ Aside0 (Below wr.heap.size wr wc))
      case first =>
        go_region_law (first | (refine Kd.R_append_rows_step (Kd.int .u8) (w0 := wr) wr.heap.size (by rfl) (.tmp 26) (.tmp 29) 22 5 (.int .u8 0) 1 rfl Tryd.underlying22 info5 rfl (by decide) (by omega) (.slice Aq (28 - n) cq) (ci.drop n) (ci.take n) _ _ _ (fun _ => True) (fun _ => False) rfl rfl ?aO ?aR (fun _ _ h => h) (fun _ h => h.elim) ?aF ?aB ?aS ?aL ?_; (case aO => exact HQ.out); (case aR => exact C_at (Kd.C_below G1.out HB4.out) 0 n (by omega)); (case aF => intro k hk; trivial); (case aB => exact HB4.out); (case aS => exact HB4.out.size); (case aL => rw [List.length_drop, HGC.out.2]; omega); intro v1 w6 ho hb hg hat; have HO1 := Aside0.mk ho; have HW1 := Aside0.mk hb; clear ho hb hg hat) | (go_simp; go_at_call 47; go_must (refine (KB.out _ ?tt).mono ?_; (case tt => exact Kd.C_below G1.out (below_drew1 (Below.refl _ _))); rintro e w4 ⟨v4, rfl, hR, hb⟩; obtain ⟨Aq, cq, eq⟩ := Kd.R_slice hR; rw [e28.out] at eq; subst eq; have HQ := Aside0.mk (Kd.R_lower hR (Nat.le_refl wr.heap.size)); have HB4 := Aside0.mk (below_then (below_drew1 (Below.refl wr.heap.size wr)) (Nat.le_refl _) hb); clear hR hb)))
        all_goals (try go_simp)
        all_goals (try go_wp2)
        all_goals go_meet
        all_goals (case rel => exact turn_row HO1.out HGC.out.2 (by omega) HW1.out)
      case rest =>
        obtain ⟨gc1, cc1, rfl, hcc1, hG1, hW1⟩ := hcut
        have G2c := Aside0.mk (Kd.C_below G2.out hW1.out)
        have KBd := Aside0.mk (fun (w1 : World) (h : Kd.C (Kd.int .u8) w1 (some ⟨gd, od, none⟩) 28 di) => bytes_part gd od cdd n di HGD.out.2 (by omega) w1 h hcdd)
        go_upto_region 9 with fail
        go_cut [5] from 20 to 48 (fun s5 wd => ∃ g cap : Nat, s5 = .slice (some ⟨g, 0, none⟩) 28 cap ∧ 28 ≤ cap ∧ Aside0 (wc.heap.size ≤ g ∧ Kd.C (Kd.int .u8) wd (some ⟨g, 0, none⟩) 28 (turnB n di)) ∧ Aside0 (Below wc.heap.size wc wd))
        case first =>
          go_region_law (first | (refine Kd.R_append_rows_step (Kd.int .u8) (w0 := wc) wc.heap.size (by rfl) (.tmp 34) (.tmp 37) 22 5 (.int .u8 0) 1 rfl Tryd.underlying22 info5 rfl (by decide) (by omega) (.slice Aq (28 - n) cq) (di.drop n) (di.take n) _ _ _ (fun _ => True) (fun _ => False) rfl rfl ?aO ?aR (fun _ _ h => h) (fun _ h => h.elim) ?aF ?aB ?aS ?aL ?_; (case aO => exact HQ.out); (case aR => exact C_at (Kd.C_below G2c.out HB4.out) 0 n (by omega)); (case aF => intro k hk; trivial); (case aB => exact HB4.out); (case aS => exact HB4.out.size); (case aL => rw [List.length_drop, HGD.out.2]; omega); intro v1 w6 ho hb hg hat; have HO1 := Aside0.mk ho; have HW1 := Aside0.mk hb; clear ho hb hg hat) | (go_simp; go_at_call 47; go_must (refine (KBd.out _ ?tt).mono ?_; (case tt => exact Kd.C_below G2c.out (below_drew1 (Below.refl _ _))); rintro e w4 ⟨v4, rfl, hR, hb⟩; obtain ⟨Aq, cq, eq⟩ := Kd.R_slice hR; rw [e28d.out] at eq; subst eq; have HQ := Aside0.mk (Kd.R_lower hR (Nat.le_refl wc.heap.size)); have HB4 := Aside0.mk (below_then (below_drew1 (Below.refl wc.heap.size wc)) (Nat.le_refl _) hb); clear hR hb)))
          all_goals (try go_simp)
          all_goals (try go_wp2)
          all_goals go_meet
          all_goals (case rel => exact turn_row HO1.out HGD.out.2 (by omega) HW1.out)
        case rest =>
          obtain ⟨gd1, cd1, rfl, hcd1, hG2, hW2⟩ := hcut
          have hcl : Aside0 ((turnB n ci).length = 28) := ⟨by rw [turnB_length]; exact HGC.out.2⟩
          have hdl : Aside0 ((turnB n di).length = 28) := ⟨by rw [turnB_length]; exact HGD.out.2⟩
          have hap : (turnB n ci ++ turnB n di).length = 56 := by rw [List.length_append, hcl.out, hdl.out]
          have hpk := Aside0.mk (spec_pick_eq (turnB n ci ++ turnB n di) tPC2 (by omega) (by decide) (by rw [hap]; exact within_pc2) 100 (by decide))
          have HAP := Aside0.mk hap
          have HCc1 := Aside0.mk (Kd.C_below hG1.out.2 hW2.out)
          have hwr : Aside0 (Below wr.heap.size wr wc) := ⟨below_step hW1.out hW2.out⟩
          obtain ⟨cl, hcl_⟩ : ∃ cl, cl = turnB n ci := ⟨_, rfl⟩
          obtain ⟨dl, hdl_⟩ : ∃ dl, dl = turnB n di := ⟨_, rfl⟩
          rw [← hcl_] at hcl hpk HAP HCc1 hst EC
          rw [← hdl_] at hdl hpk HAP hG2 hst ED
          have KB1 := Aside0.mk (fun (w1 : World) (h : Kd.C (Kd.int .u8) w1 (some ⟨gc1, 0, none⟩) 28 cl) => bytes_whole gc1 cc1 cl hcl.out w1 h hcc1)
          obtain ⟨row, hrow⟩ : ∃ row, row = pickB (cl ++ dl) tPC2 := ⟨_, rfl⟩
          have hrl : Aside0 (row.length = 48) := ⟨by rw [hrow, pickB_length]; rfl⟩
          have hkl : Aside0 ((keysFrom (turnsL.take i) c d).length ≤ 16) := ⟨by rw [keysFrom_length, List.length_take]; exact Nat.le_trans (Nat.min_le_right _ _) (by decide)⟩
          rw [← hrow] at hpk hst
          clear hap hcl_ hdl_ hrow KB KBd
          go_wp2_with (first | (go_at_call 47; go_must (refine (KB1.out _ HCc1.out).mono ?_; rintro e w5 ⟨v5, rfl, hR, hb⟩; obtain ⟨Aq, cq, eq⟩ := Kd.R_slice hR; rw [hcl.out] at eq; subst eq; have HQ := Aside0.mk hR; have HB5 := Aside0.mk hb; clear hR hb)) | (go_at_call 69; go_must (refine (spec_l1PC2.calls tPC2 _ rfl).mono ?_; rintro e w7 ⟨v7, rfl, hR, hb⟩; obtain ⟨At7, ct7, et⟩ := Kd.R_slice hR; subst et; have HT7 := Aside0.mk (Kd.R_reads' hR).2; have HB7 := Aside0.mk hb; clear hR hb)) | (go_at_call 42; go_must (refine (pick56 _ _ (cl ++ dl) HAP.out _ _ tPC2 _ _ (Kd.C_below HA6.out.2 HB7.out) HA6.out.1 HT7.out.2 HT7.out.1 hpk.out).mono ?_; rintro e w8 ⟨v8, rfl, hR, hb⟩; obtain ⟨Ar, cr, er⟩ := Kd.R_slice hR; rw [hrl.out] at er; subst er; have HR8 := Aside0.mk hR; have HB8 := Aside0.mk hb; clear hR hb)) | ((with_reducible refine gate_builtin (b := .append) (xs := #[.tmp 41, .tmp 42]) rfl ?_); at_builtin; go_must (refine Kd.R_append_rows (Kd.int .u8) (w0 := wc) wc.heap.size rfl (.tmp 41) (.tmp 42) 22 5 (.int .u8 0) 1 rfl Tryd.underlying22 info5 rfl (by decide) (by omega) (.slice Aq 28 cq) cl dl _ _ _ (fun _ => True) (fun _ => False) rfl rfl ?aO ?aR (fun _ _ h => h) (fun _ h => h.elim) ?aF ?aB ?aS ?aL ?_; (case aO => exact HQ.out); (case aR => exact Kd.C_below hG2.out.2 HB5.out); (case aF => intro k hk; trivial); (case aB => exact HB5.out); (case aS => exact HB5.out.size); (case aL => rw [hcl.out]; omega); intro v6 w6 ho hb hg hat; obtain ⟨Aa, ca, ea⟩ := Kd.R_slice ho; rw [HAP.out] at ea; subst ea; have HA6 := Aside0.mk (Kd.R_reads' ho).2; rw [HAP.out] at HA6; have HB6 := Aside0.mk hb; clear ho hb hg hat)) | ((with_reducible refine gate_builtin (b := .append) (xs := #[.tmp 39, .tmp 46]) rfl ?_); at_builtin; have BW := Aside0.mk (below_step hwr.out (below_step HB6.out (below_step HB7.out HB8.out))); have S7 := Aside0.mk (below_step hwr.out (below_step HB6.out HB7.out)).size; go_must (refine Kd.R_append (Kd.slice 5 (Kd.int .u8)) (w0 := w) w.heap.size rfl (.tmp 39) (.tmp 46) 47 22 (.slice none 0 0) 24 rfl Tryd.underlying47 info22 rfl (by decide) (by omega) u6 (keysFrom (turnsL.take i) c d) row [.slice Ar 48 cr] (fun _ => True) (fun k_ => some k_ = (.slice Ar 48 cr : Value).ownBlock) rfl rfl ?aP ?aK (fun _ _ => trivial) ?aO ?aB ?aS ?aL ?_; (case aP => exact ⟨_, rfl, Kd.R_tight rfl (Kd.R_lower HR8.out (Nat.le_trans G6.out.size S7.out))⟩); (case aK => intro k hk; refine ⟨trivial, fun e => ?_⟩; have h1 := Kd.R_base HR8.out k hk.symm; have h2 := Kd.R_lt G3.out k e.symm; have h3 := S7.out; omega); (case aO => exact Kd.R_below G3.out BW.out); (case aB => exact below_step G6.out BW.out); (case aS => exact (below_step G6.out BW.out).size); (case aL => have := hkl.out; omega); intro v9 w9 ho hb hg hat; rw [← hst.out] at ho; have HO9 := Aside0.mk ho; have HB9 := Aside0.mk hb; have HG9 := Aside0.mk hg; have HA9 := Aside0.mk hat; clear ho hb hg hat)))
          have BX := below_step HB6.out (below_step HB7.out HB8.out)
          have hlt9 := Kd.R_lt G3.out
          have lc := C_lt HCc1.out (by omega)
          have ld := C_lt hG2.out.2 (by omega)
          have lt_ := G5.out.lt
          have sz1 := hwr.out.size
          have sz2 := BX.size
          have sz3 := hW1.out.size
          have gc1b := hG1.out.1
          have gd1b := hG2.out.1
          have hold : ∀ g, u6.ownBlock = some g → g ≠ gc1 ∧ g ≠ gd1 ∧ g ≠ gt := fun g hg => by
            have h1 := hlt9 g hg
            have h2 := (G4.out g hg).2.2
            exact ⟨by omega, by omega, h2⟩
          have hnew : ∀ g, v9.ownBlock = some g → g ≠ gc1 ∧ g ≠ gd1 ∧ g ≠ gt := fun g hg => by
            rcases HA9.out with e | ⟨b, e, hb⟩
            · exact hold g (e ▸ hg)
            · rw [hg] at e
              injection e with e
              subst e
              exact ⟨by omega, by omega, by omega⟩
          have gC := C_grown (Kd.C_below HCc1.out BX) HG9.out (fun e => (hold gc1 e.symm).1 rfl)
          have gD := C_grown (Kd.C_below hG2.out.2 BX) HG9.out (fun e => (hold gd1 e.symm).2.1 rfl)
          have gT := (G5.out.below (below_step hwr.out BX)).grown HG9.out (fun e => (hold gt e.symm).2.2 rfl)
          go_roundw
          case rel => exact ⟨i + 1, gc1, 0, cc1, gd1, 0, cd1, by omega, by go_num, rfl, rfl, hcc1, hcd1, ⟨by rw [EC.out]; exact gC⟩, ⟨by rw [ED.out]; exact gD⟩, HO9, ⟨hnew⟩, ⟨gT⟩, HB9⟩
          case measure => simp [intOf]; omega
    · obtain rfl : i = 16 := by omega
      go_wp2
      go_ret
      exact ⟨_, rfl, G3.out, G6.out⟩
end Go.Proofs.YtbjlpdfhjapbkaaDoor
