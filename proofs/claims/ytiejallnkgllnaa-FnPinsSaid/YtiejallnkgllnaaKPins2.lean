/- Texts of this session and of the kit's print, put together by a program; what this claim does not use is left out. -/
import Derived.Test.YtiejallnkgllnaaKPins1
import Derived.Deep.RegionLaw
import Derived.Deep.CutRange
import Derived.Laws.RangeAny
import Derived.Deep.MidRow
import Derived.Deep.QuietTactic
import Derived.BigQuiet
import Derived.Lib.ConvBytes
namespace Go.Proofs.Ytiejallnkgllnaa
open Go.RowKit Go.Proofs.YtiejallnkgllnaaW.PrintWords Go.Proofs.YtiejallnkgllnaaW.PrintLast Go.Proofs.YtiejallnkgllnaaW.PrintMore Go.Proofs.Ytiejallnkgllnaa.D Go.Proofs.Ytiejallnkgllnaa.B Go.Proofs.Ytiejallnkgllnaa.LQ
set_option linter.unusedVariables false

def turnsTo (ns : List Nat) (c : List Int) : List Int := ns.foldl (fun c n => turnB n c) c
theorem turnsTo_snoc (ns : List Nat) (n : Nat) (c : List Int) : turnsTo (ns ++ [n]) c = turnB n (turnsTo ns c) := by simp [turnsTo]
theorem keysFrom_snoc (ns : List Nat) : ∀ (n : Nat) (c d : List Int), keysFrom (ns ++ [n]) c d = keysFrom ns c d ++ [pickB (turnB n (turnsTo ns c) ++ turnB n (turnsTo ns d)) tPC2] := by
  induction ns with
  | nil => intro n c d; rfl
  | cons m ns ih => intro n c d; simp only [List.cons_append, keysFrom, ih]; rfl
theorem turnsTo_good (ns : List Nat) : ∀ (c : List Int), Bits c → Bits (turnsTo ns c) ∧ (turnsTo ns c).length = c.length := by
  induction ns with
  | nil => intro c h; exact ⟨h, rfl⟩
  | cons m ns ih => intro c h; have := ih (turnB m c) (turnB_bits h m); rw [turnB_length] at this; exact this
def turnAt (i : Nat) : Nat := turnsL.getD i 0
theorem turnAt_12 (i : Nat) (h : i < 16) : turnAt i = 1 ∨ turnAt i = 2 := by
  have : ∀ j : Fin 16, turnAt j.val = 1 ∨ turnAt j.val = 2 := by decide
  exact this ⟨i, h⟩
theorem turns_take (i : Nat) (h : i < 16) : turnsL.take (i + 1) = turnsL.take i ++ [turnAt i] := by
  have : ∀ j : Fin 16, turnsL.take (j.val + 1) = turnsL.take j.val ++ [turnAt j.val] := by decide
  exact this ⟨i, h⟩
theorem info22 : (Try.prog.info? 29).map (fun i => (i.zero, i.size, i.bytes)) = some (some (.slice none 0 0), 1, 24) := by kernel_rfl
theorem C_grown {w w1 : World} {k : IntKind} {ad : Addr} {n : Nat} {xs : List Int} {row : Option Nat} (h : Kd.C (Kd.int k) w (some ad) n xs) (hg : w.grownBy w1 row) (hne : some ad.block ≠ row) : Kd.C (Kd.int k) w1 (some ad) n xs := by
  obtain ⟨h1, h2, h3⟩ := h
  refine ⟨h1, h2, fun hn => ?_⟩
  obtain ⟨ad', e, hc⟩ := h3 hn
  cases e
  refine ⟨ad, rfl, fun j p hp => ?_⟩
  obtain ⟨c, hl, hk, hcell⟩ := hc j p hp
  refine ⟨c, hl, hk, fun i u hu => hg.cell (hcell i u hu) ?_⟩
  have : (ad.add (j * (Kd.int k).sz + i)).block = ad.block := by unfold Addr.add; split <;> rfl
  rw [this]
  exact hne
theorem C_at {w : World} {k : IntKind} {g o n : Nat} {xs : List Int} (h : Kd.C (Kd.int k) w (some ⟨g, o, none⟩) n xs) (i m : Nat) (hm : m + i ≤ n) : Kd.C (Kd.int k) w (some ⟨g, o + i, none⟩) m ((xs.drop i).take m) := by
  obtain ⟨h1, h2, h3⟩ := h
  refine ⟨by rw [List.length_take, List.length_drop]; omega, by omega, fun hn => ?_⟩
  obtain ⟨ad', e, hc⟩ := h3 (by omega)
  cases e
  refine ⟨_, rfl, fun j p hp => ?_⟩
  have hj : j < m := by
    rcases Nat.lt_or_ge j m with h' | h'
    · exact h'
    · rw [List.getElem?_eq_none (by rw [List.length_take]; omega)] at hp; cases hp
  rw [List.getElem?_take_of_lt hj, List.getElem?_drop] at hp
  obtain ⟨c, hl, hk, hcell⟩ := hc (i + j) p hp
  refine ⟨c, hl, hk, fun q u hu => ?_⟩
  have := hcell q u hu
  have hs : (Kd.int k).sz = 1 := rfl
  rw [Addr.add_mid] at this ⊢
  rw [hs] at this ⊢
  rw [show o + i + (j * 1 + q) = o + ((i + j) * 1 + q) by omega]
  exact this

theorem bytes_part (gc oc cc n : Nat) (ci : List Int) (hl : ci.length = 28) (hn : n ≤ 28) (w : World) (h : Kd.C (Kd.int .u8) w (some ⟨gc, oc, none⟩) 28 ci) (hcc : 28 ≤ cc) :
    Calls Try.prog 97 #[.slice (some ⟨gc, oc + n, none⟩) (28 - n) (cc - n)] w fun e w' => ∃ v0_ : Value, e = .returned (v0_) ∧ Kd.R (Kd.int .u8) 5 w' w.heap.size (fun _ => True) v0_ (ci.drop n) ∧ Below w.heap.size w w' := by
  have hlen : (ci.drop n).length = 28 - n := by rw [List.length_drop, hl]
  have hC := C_at h n (28 - n) (by omega)
  rw [List.take_of_length_le (by omega)] at hC
  have := spec_l1Bytes.calls (some ⟨gc, oc + n, none⟩) (cc - n) (ci.drop n) (ci.drop n) w (by rw [hlen]; exact hC) (by omega) (by unfold spec_l1Bytes.f; rw [if_pos (by omega)])
  rwa [hlen] at this
theorem turn_row {w0 w : World} {v : Value} {ci : List Int} {n : Nat} (h : Kd.R (Kd.int .u8) 5 w w0.heap.size (fun _ => True) v (ci.drop n ++ ci.take n)) (hl : ci.length = 28) (hn : n ≤ 28) (hb : Below w0.heap.size w0 w) :
    ∃ g cap : Nat, v = .slice (some ⟨g, 0, none⟩) 28 cap ∧ 28 ≤ cap ∧ Aside0 (w0.heap.size ≤ g ∧ Kd.C (Kd.int .u8) w (some ⟨g, 0, none⟩) 28 (turnB n ci)) ∧ Aside0 (Below w0.heap.size w0 w) := by
  have hlen : (ci.drop n ++ ci.take n).length = 28 := by rw [List.length_append, List.length_drop, List.length_take, hl]; omega
  obtain ⟨A, cap, e⟩ := Kd.R_slice h
  subst e
  obtain ⟨g, eg, hg⟩ := R_own h (by omega)
  subst eg
  have hr := (Kd.R_reads' h).2
  rw [hlen] at hr ⊢
  exact ⟨g, cap, rfl, hr.1, ⟨hg, hr.2⟩, ⟨hb⟩⟩
theorem bytes_whole (g cc : Nat) (ci : List Int) (hl : ci.length = 28) (w : World) (h : Kd.C (Kd.int .u8) w (some ⟨g, 0, none⟩) 28 ci) (hcc : 28 ≤ cc) :
    Calls Try.prog 97 #[.slice (some ⟨g, 0, none⟩) 28 cc] w fun e w' => ∃ v0_ : Value, e = .returned (v0_) ∧ Kd.R (Kd.int .u8) 5 w' w.heap.size (fun _ => True) v0_ ci ∧ Below w.heap.size w w' := by
  have := spec_l1Bytes.calls (some ⟨g, 0, none⟩) cc ci ci w (by rw [hl]; exact h) (by omega) (by unfold spec_l1Bytes.f; rw [if_pos (by omega)])
  rwa [hl] at this
theorem pick56 (A0 : Option Addr) (c0 : Nat) (l0 : List Int) (hl : l0.length = 56) (A1 : Option Addr) (c1 : Nat) (l1 : List Int) (r : List Int) (w : World) (hr0 : Kd.C (Kd.int .u8) w A0 56 l0) (hc0 : 56 ≤ c0) (hr1 : Kd.C (Kd.int .i64) w A1 l1.length l1) (hc1 : l1.length ≤ c1) (h : spec_l1Pick.f 100 l0 l1 = some r) :
    Calls Try.prog 119 #[.slice A0 56 c0, .slice A1 l1.length c1] w fun e w' => ∃ v0_ : Value, e = .returned (v0_) ∧ Kd.R (Kd.int .u8) 5 w' w.heap.size (fun _ => True) v0_ r ∧ Below w.heap.size w w' := by
  have := spec_l1Pick.calls 100 A0 c0 l0 A1 c1 l1 r w (by rw [hl]; exact hr0) (by omega) hr1 hc1 h
  rwa [hl] at this
theorem C_lt {w : World} {k : IntKind} {g o n : Nat} {xs : List Int} (h : Kd.C (Kd.int k) w (some ⟨g, o, none⟩) n xs) (hn : 0 < n) : g < w.heap.size := by
  obtain ⟨h1, h2, h3⟩ := h
  subst h1
  obtain ⟨ad, e, hc⟩ := C_cells (show Kd.C (Kd.int k) w (some ⟨g, o, none⟩) xs.length xs from ⟨rfl, h2, h3⟩) hn
  cases e
  have h0 : (nums k xs)[0]? = some (.int k (xs[0]'hn)) := by simp [nums, hn]
  have := World.block_lt_of_cell? w _ (hc 0 _ h0)
  exact this
set_option maxRecDepth 100000 in
set_option maxHeartbeats 4000000 in
theorem spec_l1Keys.calls0 (A0 : Option Addr) (c0 : Nat) (l0 : List Int) (w : World) (hr0 : Kd.C (Kd.int .u8) w A0 l0.length l0) (hc0 : l0.length ≤ c0) (h0 : l0.length = 8) (hb0 : Bytes l0) :
    Calls Try.prog 118 #[.slice A0 l0.length c0] w fun e w' => ∃ v0_ : Value, e = .returned (v0_) ∧ Kd.R (Kd.slice 5 (Kd.int .u8)) 29 w' w.heap.size (fun _ => True) v0_ (keysB l0) ∧ Below w.heap.size w w' := by
  have HR0 := Aside0.mk hr0
  have HC0 := Aside0.mk hc0
  have hbits := Aside0.mk (spec_bits_eq l0 (by omega) hb0 100 (by omega))
  have hl64 : (bitsOf l0).length = 64 := by rw [bitsOf_length, h0]
  have hp1 := Aside0.mk (spec_pick_eq (bitsOf l0) tPC1 (by omega) (by decide) (by rw [hl64]; exact within_pc1) 100 (by decide))
  obtain ⟨cd, hcd⟩ : ∃ cd, cd = pickB (bitsOf l0) tPC1 := ⟨_, rfl⟩
  have hcdb : Bits cd := hcd ▸ pickB_bits (bitsOf_bits _) _
  have hcdl : cd.length = 56 := by rw [hcd, pickB_length]; rfl
  have hkb : keysB l0 = keysFrom turnsL (cd.take 28) (cd.drop 28) := by rw [hcd]; rfl
  rw [← hcd] at hp1
  have HCD := Aside0.mk hcdl
  have hcb : Aside0 (Bits (cd.take 28) ∧ (cd.take 28).length = 28) := ⟨hcdb.take _, by rw [List.length_take]; omega⟩
  have hdb : Aside0 (Bits (cd.drop 28) ∧ (cd.drop 28).length = 28) := ⟨hcdb.drop _, by rw [List.length_drop]; omega⟩
  have htk : (cd.drop 0).take 28 = cd.take 28 := by simp
  have htd : (cd.drop 28).take 28 = cd.drop 28 := List.take_of_length_le (by rw [List.length_drop]; omega)
  rw [hkb]
  obtain ⟨c, hc⟩ : ∃ c, c = cd.take 28 := ⟨_, rfl⟩
  obtain ⟨d, hd⟩ : ∃ d, d = cd.drop 28 := ⟨_, rfl⟩
  rw [← hc] at hcb htk ⊢
  rw [← hd] at hdb ⊢
  have HTK : Aside0 ((cd.drop 0).take 28 = c ∧ (cd.drop 28).take 28 = d) := ⟨htk, by rw [htd, hd]⟩
  clear hr0 hc0 h0 hb0 hl64 hcd hcdb hcdl hkb hc hd htk htd
  go_enter Try.func118, Try.ntmps118
  go_wp2_with (first | (go_at_call 96; go_must (refine (spec_l1Bits.calls 100 _ _ l0 _ _ HR0.out HC0.out hbits.out).mono ?_; rintro e w1 ⟨v1, rfl, hR, hb⟩; obtain ⟨Ab, cb, eb⟩ := Kd.R_slice hR; subst eb; have HB := Aside0.mk (Kd.R_reads' hR).2; have B1 := Aside0.mk hb; clear hR hb)) | (go_at_call 127; go_must (refine (spec_l1PC1.calls tPC1 _ rfl).mono ?_; rintro e w2 ⟨v2, rfl, hR, hb⟩; obtain ⟨At, ct, et⟩ := Kd.R_slice hR; subst et; have HT := Aside0.mk (Kd.R_reads' hR).2; have HB2 := Aside0.mk (Kd.C_below HB.out.2 hb); have B2 := Aside0.mk (below_step B1.out hb); clear hR hb)) | (go_at_call 119; go_must (refine (spec_l1Pick.calls 100 _ _ (bitsOf l0) _ _ tPC1 _ _ HB2.out HB.out.1 HT.out.2 HT.out.1 hp1.out).mono ?_; rintro e w3 ⟨v3, rfl, hR, hb⟩; obtain ⟨Ap, cp, ep⟩ := Kd.R_slice hR; subst ep; obtain ⟨gp, egp, _⟩ := R_own hR (by rw [HCD.out]; decide); subst egp; have HP := Aside0.mk (Kd.R_reads' hR).2; have B3 := Aside0.mk (below_step B2.out hb); clear hR hb; have hcp := HP.out.1; rw [HCD.out] at hcp ⊢)))
  have hT0 : Blk (w3.alloc (.cells #[.int .i64 1, .int .i64 1, .int .i64 2, .int .i64 2, .int .i64 2, .int .i64 2, .int .i64 2, .int .i64 2, .int .i64 1, .int .i64 2, .int .i64 2, .int .i64 2, .int .i64 2, .int .i64 2, .int .i64 2, .int .i64 1] 3)) w3.heap.size .i64 3 (turnsL.map fun (n : Nat) => (n : Int)) := blk_new w3 (.cells (nums .i64 (turnsL.map fun (n : Nat) => (n : Int))).toArray 3)
  have hB0 : Below w.heap.size w (w3.alloc (.cells #[.int .i64 1, .int .i64 1, .int .i64 2, .int .i64 2, .int .i64 2, .int .i64 2, .int .i64 2, .int .i64 2, .int .i64 1, .int .i64 2, .int .i64 2, .int .i64 2, .int .i64 2, .int .i64 2, .int .i64 2, .int .i64 1] 3)) := B3.out.alloc B3.out.size _
  have hP0 := Kd.C_alloc HP.out.2 (.cells #[.int .i64 1, .int .i64 1, .int .i64 2, .int .i64 2, .int .i64 2, .int .i64 2, .int .i64 2, .int .i64 2, .int .i64 1, .int .i64 2, .int .i64 2, .int .i64 2, .int .i64 2, .int .i64 2, .int .i64 2, .int .i64 1] 3)
  rw [HCD.out] at hP0
  have hc1 := C_at hP0 0 28 (by omega)
  have hd1 := C_at hP0 28 28 (by omega)
  rw [HTK.out.1] at hc1
  rw [HTK.out.2, Nat.zero_add] at hd1
  obtain ⟨gt, hgt⟩ : ∃ gt, gt = w3.heap.size := ⟨_, rfl⟩
  rw [← hgt] at hT0 ⊢
  have HT0 := Aside0.mk hT0
  have HB0 := Aside0.mk hB0
  have HCc := Aside0.mk hc1
  have HCd := Aside0.mk hd1
  clear hT0 hB0 hP0 hc1 hd1 hgt
  go_loopw [4, 5, 6, 8, 19] (fun v4 v5 v6 v8 v19 wr => ∃ (i gc oc cc gd od cdd : Nat), i ≤ 16 ∧ v19 = .int .i64 i ∧ v4 = .slice (some ⟨gc, oc, none⟩) 28 cc ∧ v5 = .slice (some ⟨gd, od, none⟩) 28 cdd ∧ 28 ≤ cc ∧ 28 ≤ cdd ∧
      Aside0 (Kd.C (Kd.int .u8) wr (some ⟨gc, oc, none⟩) 28 (turnsTo (turnsL.take i) c)) ∧ Aside0 (Kd.C (Kd.int .u8) wr (some ⟨gd, od, none⟩) 28 (turnsTo (turnsL.take i) d)) ∧
      Aside0 (Kd.R (Kd.slice 5 (Kd.int .u8)) 29 wr w.heap.size (fun _ => True) v6 (keysFrom (turnsL.take i) c d)) ∧ Aside0 (∀ g, v6.ownBlock = some g → g ≠ gc ∧ g ≠ gd ∧ g ≠ gt) ∧
      Aside0 (Blk wr gt .i64 3 (turnsL.map fun (n : Nat) => (n : Int))) ∧ Aside0 (Below w.heap.size w wr))
    (fun _ _ _ _ v19 _ => 16 - (intOf v19).toNat)
  case atStart => exact ⟨0, gp, 0, cp, gp, 28, cp - 28, by omega, rfl, rfl, rfl, by omega, by omega, HCc, HCd, ⟨Kd.R_nil _ _ _ _ _⟩, ⟨fun g hg => by cases hg⟩, HT0, HB0⟩
  case round =>
    obtain ⟨i, gc, oc, cc, gd, od, cdd, hi, rfl, rfl, rfl, hcc, hcdd, G1, G2, G3, G4, G5, G6⟩ := hrel
    by_cases hlt : i < 16
    · have hcell := G5.out.cell i hlt
      have hnth : nth (turnsL.map fun (n : Nat) => (n : Int)) i = (turnAt i : Int) := by
        have : ∀ j : Fin 16, nth (turnsL.map fun (n : Nat) => (n : Int)) j.val = (turnAt j.val : Int) := by decide
        exact this ⟨i, hlt⟩
      rw [hnth] at hcell
      have hst := Aside0.mk (show keysFrom (turnsL.take (i + 1)) c d = keysFrom (turnsL.take i) c d ++ [pickB (turnB (turnAt i) (turnsTo (turnsL.take i) c) ++ turnB (turnAt i) (turnsTo (turnsL.take i) d)) tPC2] by rw [turns_take i hlt]; exact keysFrom_snoc _ _ c d)
      have ec : turnsTo (turnsL.take (i + 1)) c = turnB (turnAt i) (turnsTo (turnsL.take i) c) := by rw [turns_take i hlt, turnsTo_snoc]
      have ed : turnsTo (turnsL.take (i + 1)) d = turnB (turnAt i) (turnsTo (turnsL.take i) d) := by rw [turns_take i hlt, turnsTo_snoc]
      have hgc := turnsTo_good (turnsL.take i) c hcb.out.1
      have hgd := turnsTo_good (turnsL.take i) d hdb.out.1
      rw [hcb.out.2] at hgc
      rw [hdb.out.2] at hgd
      have hn := turnAt_12 i hlt
      have EC := Aside0.mk ec
      have ED := Aside0.mk ed
      have HGC := Aside0.mk hgc
      have HGD := Aside0.mk hgd
      obtain ⟨n, hnn⟩ : ∃ n, n = turnAt i := ⟨_, rfl⟩
      rw [← hnn] at hn hcell hst EC ED
      obtain ⟨ci, hci⟩ : ∃ ci, ci = turnsTo (turnsL.take i) c := ⟨_, rfl⟩
      obtain ⟨di, hdi⟩ : ∃ di, di = turnsTo (turnsL.take i) d := ⟨_, rfl⟩
      rw [← hci] at hst EC HGC G1
      rw [← hdi] at hst ED HGD G2
      clear hnth ec ed hgc hgd hnn hci hdi
      have hn0 : 0 < n ∧ n ≤ 2 := by omega
      obtain ⟨hn1, hn2⟩ := hn0
      have i0 : (0 : Int) ≤ (n : Int) := by omega
      have i1 : (n : Int) ≤ 28 := by omega
      have i2 : ¬ cc = n := by omega
      have i4 : n ≤ cc := by omega
      have i5 : n ≤ cdd := by omega
      have e28 : Aside0 ((ci.drop n).length = 28 - n) := ⟨by rw [List.length_drop, HGC.out.2]⟩
      have e28d : Aside0 ((di.drop n).length = 28 - n) := ⟨by rw [List.length_drop, HGD.out.2]⟩
      have i3 : ¬ cdd = n := by omega
      clear hn
      go_upto_region 8 with fail
      have KB := Aside0.mk (fun (w1 : World) (h : Kd.C (Kd.int .u8) w1 (some ⟨gc, oc, none⟩) 28 ci) => bytes_part gc oc cc n ci HGC.out.2 (by omega) w1 h hcc)
      go_cut [4] from 20 to 48 (fun s4 wc => ∃ g cap : Nat, s4 = .slice (some ⟨g, 0, none⟩) 28 cap ∧ 28 ≤ cap ∧ Aside0 (wr.heap.size ≤ g ∧ Kd.C (Kd.int .u8) wc (some ⟨g, 0, none⟩) 28 (turnB n ci)) ∧ Aside0 (Below wr.heap.size wr wc))
      case first =>
        go_region_law (first | (refine Kd.R_append_rows_step (Kd.int .u8) (w0 := wr) wr.heap.size (by rfl) (.tmp 26) (.tmp 29) 29 5 (.int .u8 0) 1 rfl Try.underlying29 info5 rfl (by decide) (by omega) (.slice Aq (28 - n) cq) (ci.drop n) (ci.take n) _ _ _ (fun _ => True) (fun _ => False) rfl rfl ?aO ?aR (fun _ _ h => h) (fun _ h => h.elim) ?aF ?aB ?aS ?aL ?_; (case aO => exact HQ.out); (case aR => exact C_at (Kd.C_below G1.out HB4.out) 0 n (by omega)); (case aF => intro k hk; trivial); (case aB => exact HB4.out); (case aS => exact HB4.out.size); (case aL => rw [List.length_drop, HGC.out.2]; omega); intro v1 w6 ho hb hg hat; have HO1 := Aside0.mk ho; have HW1 := Aside0.mk hb; clear ho hb hg hat) | (go_simp; go_at_call 97; go_must (refine (KB.out _ ?tt).mono ?_; (case tt => exact Kd.C_below G1.out (below_drew1 (Below.refl _ _))); rintro e w4 ⟨v4, rfl, hR, hb⟩; obtain ⟨Aq, cq, eq⟩ := Kd.R_slice hR; rw [e28.out] at eq; subst eq; have HQ := Aside0.mk (Kd.R_lower hR (Nat.le_refl wr.heap.size)); have HB4 := Aside0.mk (below_then (below_drew1 (Below.refl wr.heap.size wr)) (Nat.le_refl _) hb); clear hR hb)))
        all_goals (try go_simp)
        all_goals (try go_wp2)
        all_goals go_meet
        all_goals (case rel => exact turn_row HO1.out HGC.out.2 (by omega) HW1.out)
      case rest =>
        obtain ⟨gc1, cc1, rfl, hcc1, hG1, hW1⟩ := hcut
        have G2c := Aside0.mk (Kd.C_below G2.out hW1.out)
        have KBd := Aside0.mk (fun (w1 : World) (h : Kd.C (Kd.int .u8) w1 (some ⟨gd, od, none⟩) 28 di) => bytes_part gd od cdd n di HGD.out.2 (by omega) w1 h hcdd)
        go_upto_region 9 with fail
        go_cut [5] from 20 to 48 (fun s5 wd => ∃ g cap : Nat, s5 = .slice (some ⟨g, 0, none⟩) 28 cap ∧ 28 ≤ cap ∧ Aside0 (wc.heap.size ≤ g ∧ Kd.C (Kd.int .u8) wd (some ⟨g, 0, none⟩) 28 (turnB n di)) ∧ Aside0 (Below wc.heap.size wc wd))
        case first =>
          go_region_law (first | (refine Kd.R_append_rows_step (Kd.int .u8) (w0 := wc) wc.heap.size (by rfl) (.tmp 34) (.tmp 37) 29 5 (.int .u8 0) 1 rfl Try.underlying29 info5 rfl (by decide) (by omega) (.slice Aq (28 - n) cq) (di.drop n) (di.take n) _ _ _ (fun _ => True) (fun _ => False) rfl rfl ?aO ?aR (fun _ _ h => h) (fun _ h => h.elim) ?aF ?aB ?aS ?aL ?_; (case aO => exact HQ.out); (case aR => exact C_at (Kd.C_below G2c.out HB4.out) 0 n (by omega)); (case aF => intro k hk; trivial); (case aB => exact HB4.out); (case aS => exact HB4.out.size); (case aL => rw [List.length_drop, HGD.out.2]; omega); intro v1 w6 ho hb hg hat; have HO1 := Aside0.mk ho; have HW1 := Aside0.mk hb; clear ho hb hg hat) | (go_simp; go_at_call 97; go_must (refine (KBd.out _ ?tt).mono ?_; (case tt => exact Kd.C_below G2c.out (below_drew1 (Below.refl _ _))); rintro e w4 ⟨v4, rfl, hR, hb⟩; obtain ⟨Aq, cq, eq⟩ := Kd.R_slice hR; rw [e28d.out] at eq; subst eq; have HQ := Aside0.mk (Kd.R_lower hR (Nat.le_refl wc.heap.size)); have HB4 := Aside0.mk (below_then (below_drew1 (Below.refl wc.heap.size wc)) (Nat.le_refl _) hb); clear hR hb)))
          all_goals (try go_simp)
          all_goals (try go_wp2)
          all_goals go_meet
          all_goals (case rel => exact turn_row HO1.out HGD.out.2 (by omega) HW1.out)
        case rest =>
          obtain ⟨gd1, cd1, rfl, hcd1, hG2, hW2⟩ := hcut
          have hcl : Aside0 ((turnB n ci).length = 28) := ⟨by rw [turnB_length]; exact HGC.out.2⟩
          have hdl : Aside0 ((turnB n di).length = 28) := ⟨by rw [turnB_length]; exact HGD.out.2⟩
          have hap : (turnB n ci ++ turnB n di).length = 56 := by rw [List.length_append, hcl.out, hdl.out]
          have hpk := Aside0.mk (spec_pick_eq (turnB n ci ++ turnB n di) tPC2 (by omega) (by decide) (by rw [hap]; exact within_pc2) 100 (by decide))
          have HAP := Aside0.mk hap
          have HCc1 := Aside0.mk (Kd.C_below hG1.out.2 hW2.out)
          have hwr : Aside0 (Below wr.heap.size wr wc) := ⟨below_step hW1.out hW2.out⟩
          obtain ⟨cl, hcl_⟩ : ∃ cl, cl = turnB n ci := ⟨_, rfl⟩
          obtain ⟨dl, hdl_⟩ : ∃ dl, dl = turnB n di := ⟨_, rfl⟩
          rw [← hcl_] at hcl hpk HAP HCc1 hst EC
          rw [← hdl_] at hdl hpk HAP hG2 hst ED
          have KB1 := Aside0.mk (fun (w1 : World) (h : Kd.C (Kd.int .u8) w1 (some ⟨gc1, 0, none⟩) 28 cl) => bytes_whole gc1 cc1 cl hcl.out w1 h hcc1)
          obtain ⟨row, hrow⟩ : ∃ row, row = pickB (cl ++ dl) tPC2 := ⟨_, rfl⟩
          have hrl : Aside0 (row.length = 48) := ⟨by rw [hrow, pickB_length]; rfl⟩
          have hkl : Aside0 ((keysFrom (turnsL.take i) c d).length ≤ 16) := ⟨by rw [keysFrom_length, List.length_take]; exact Nat.le_trans (Nat.min_le_right _ _) (by decide)⟩
          rw [← hrow] at hpk hst
          clear hap hcl_ hdl_ hrow KB KBd
          go_wp2_with (first | (go_at_call 97; go_must (refine (KB1.out _ HCc1.out).mono ?_; rintro e w5 ⟨v5, rfl, hR, hb⟩; obtain ⟨Aq, cq, eq⟩ := Kd.R_slice hR; rw [hcl.out] at eq; subst eq; have HQ := Aside0.mk hR; have HB5 := Aside0.mk hb; clear hR hb)) | (go_at_call 128; go_must (refine (spec_l1PC2.calls tPC2 _ rfl).mono ?_; rintro e w7 ⟨v7, rfl, hR, hb⟩; obtain ⟨At7, ct7, et⟩ := Kd.R_slice hR; subst et; have HT7 := Aside0.mk (Kd.R_reads' hR).2; have HB7 := Aside0.mk hb; clear hR hb)) | (go_at_call 119; go_must (refine (pick56 _ _ (cl ++ dl) HAP.out _ _ tPC2 _ _ (Kd.C_below HA6.out.2 HB7.out) HA6.out.1 HT7.out.2 HT7.out.1 hpk.out).mono ?_; rintro e w8 ⟨v8, rfl, hR, hb⟩; obtain ⟨Ar, cr, er⟩ := Kd.R_slice hR; rw [hrl.out] at er; subst er; have HR8 := Aside0.mk hR; have HB8 := Aside0.mk hb; clear hR hb)) | ((with_reducible refine gate_builtin (b := .append) (xs := #[.tmp 41, .tmp 42]) rfl ?_); at_builtin; go_must (refine Kd.R_append_rows (Kd.int .u8) (w0 := wc) wc.heap.size rfl (.tmp 41) (.tmp 42) 29 5 (.int .u8 0) 1 rfl Try.underlying29 info5 rfl (by decide) (by omega) (.slice Aq 28 cq) cl dl _ _ _ (fun _ => True) (fun _ => False) rfl rfl ?aO ?aR (fun _ _ h => h) (fun _ h => h.elim) ?aF ?aB ?aS ?aL ?_; (case aO => exact HQ.out); (case aR => exact Kd.C_below hG2.out.2 HB5.out); (case aF => intro k hk; trivial); (case aB => exact HB5.out); (case aS => exact HB5.out.size); (case aL => rw [hcl.out]; omega); intro v6 w6 ho hb hg hat; obtain ⟨Aa, ca, ea⟩ := Kd.R_slice ho; rw [HAP.out] at ea; subst ea; have HA6 := Aside0.mk (Kd.R_reads' ho).2; rw [HAP.out] at HA6; have HB6 := Aside0.mk hb; clear ho hb hg hat)) | ((with_reducible refine gate_builtin (b := .append) (xs := #[.tmp 39, .tmp 46]) rfl ?_); at_builtin; have BW := Aside0.mk (below_step hwr.out (below_step HB6.out (below_step HB7.out HB8.out))); have S7 := Aside0.mk (below_step hwr.out (below_step HB6.out HB7.out)).size; go_must (refine Kd.R_append (Kd.slice 5 (Kd.int .u8)) (w0 := w) w.heap.size rfl (.tmp 39) (.tmp 46) 164 29 (.slice none 0 0) 24 rfl Try.underlying164 info22 rfl (by decide) (by omega) u6 (keysFrom (turnsL.take i) c d) row [.slice Ar 48 cr] (fun _ => True) (fun k_ => some k_ = (.slice Ar 48 cr : Value).ownBlock) rfl rfl ?aP ?aK (fun _ _ => trivial) ?aO ?aB ?aS ?aL ?_; (case aP => exact ⟨_, rfl, Kd.R_tight rfl (Kd.R_lower HR8.out (Nat.le_trans G6.out.size S7.out))⟩); (case aK => intro k hk; refine ⟨trivial, fun e => ?_⟩; have h1 := Kd.R_base HR8.out k hk.symm; have h2 := Kd.R_lt G3.out k e.symm; have h3 := S7.out; omega); (case aO => exact Kd.R_below G3.out BW.out); (case aB => exact below_step G6.out BW.out); (case aS => exact (below_step G6.out BW.out).size); (case aL => have := hkl.out; omega); intro v9 w9 ho hb hg hat; rw [← hst.out] at ho; have HO9 := Aside0.mk ho; have HB9 := Aside0.mk hb; have HG9 := Aside0.mk hg; have HA9 := Aside0.mk hat; clear ho hb hg hat)))
          have BX := below_step HB6.out (below_step HB7.out HB8.out)
          have hlt9 := Kd.R_lt G3.out
          have lc := C_lt HCc1.out (by omega)
          have ld := C_lt hG2.out.2 (by omega)
          have lt_ := G5.out.lt
          have sz1 := hwr.out.size
          have sz2 := BX.size
          have sz3 := hW1.out.size
          have gc1b := hG1.out.1
          have gd1b := hG2.out.1
          have hold : ∀ g, u6.ownBlock = some g → g ≠ gc1 ∧ g ≠ gd1 ∧ g ≠ gt := fun g hg => by
            have h1 := hlt9 g hg
            have h2 := (G4.out g hg).2.2
            exact ⟨by omega, by omega, h2⟩
          have hnew : ∀ g, v9.ownBlock = some g → g ≠ gc1 ∧ g ≠ gd1 ∧ g ≠ gt := fun g hg => by
            rcases HA9.out with e | ⟨b, e, hb⟩
            · exact hold g (e ▸ hg)
            · rw [hg] at e
              injection e with e
              subst e
              exact ⟨by omega, by omega, by omega⟩
          have gC := C_grown (Kd.C_below HCc1.out BX) HG9.out (fun e => (hold gc1 e.symm).1 rfl)
          have gD := C_grown (Kd.C_below hG2.out.2 BX) HG9.out (fun e => (hold gd1 e.symm).2.1 rfl)
          have gT := (G5.out.below (below_step hwr.out BX)).grown HG9.out (fun e => (hold gt e.symm).2.2 rfl)
          go_roundw
          case rel => exact ⟨i + 1, gc1, 0, cc1, gd1, 0, cd1, by omega, by go_num, rfl, rfl, hcc1, hcd1, ⟨by rw [EC.out]; exact gC⟩, ⟨by rw [ED.out]; exact gD⟩, HO9, ⟨hnew⟩, ⟨gT⟩, HB9⟩
          case measure => simp [intOf]; omega
    · obtain rfl : i = 16 := by omega
      go_wp2
      go_ret
      exact ⟨_, rfl, G3.out, G6.out⟩
end Go.Proofs.Ytiejallnkgllnaa
namespace Go.Proofs.Ytiejallnkgllnaa.D
open Go.Proofs.Ytiejallnkgllnaa
set_option linter.unusedVariables false

def outAt (both : List Int) (i : Nat) : List Int := (List.range 64).map fun m => if (nth tINV m).toNat - 1 < i then nth both ((nth tINV m).toNat - 1) else 0
theorem outAt_length (both : List Int) (i : Nat) : (outAt both i).length = 64 := by simp [outAt]
theorem inv_at : ∀ i m : Fin 64, ((nth tINV m.val).toNat - 1 = i.val) = ((nth tIP i.val).toNat - 1 = m.val) := by
  have : ∀ i m : Fin 64, decide ((nth tINV m.val).toNat - 1 = i.val) = decide ((nth tIP i.val).toNat - 1 = m.val) := by decide +kernel
  intro i m
  have h := this i m
  by_cases h1 : (nth tINV m.val).toNat - 1 = i.val
  · have h2 : (nth tIP i.val).toNat - 1 = m.val := of_decide_eq_true (h ▸ decide_eq_true h1)
    simp [h1, h2]
  · have h2 : ¬ (nth tIP i.val).toNat - 1 = m.val := of_decide_eq_false (h ▸ decide_eq_false h1)
    simp [h1, h2]
theorem outAt_zero (both : List Int) : outAt both 0 = List.replicate 64 0 := by
  apply List.ext_getElem
  · simp [outAt]
  · intro i h1 h2
    rw [List.getElem_replicate]
    simp only [outAt, List.getElem_map, List.getElem_range]
    rw [if_neg (Nat.not_lt_zero _)]
theorem outAt_step (both : List Int) (i : Nat) (hi : i < 64) : (outAt both i).set ((nth tIP i).toNat - 1) (nth both i) = outAt both (i + 1) := by
  apply List.ext_getElem
  · simp [outAt]
  · intro m h1 h2
    have hm : m < 64 := by simpa [outAt] using h2
    have h := inv_at ⟨i, hi⟩ ⟨m, hm⟩
    simp only [] at h
    rw [List.getElem_set]
    simp only [outAt, List.getElem_map, List.getElem_range]
    by_cases e : (nth tIP i).toNat - 1 = m
    · have e2 : (nth tINV m).toNat - 1 = i := h ▸ e
      rw [if_pos e, if_pos (by omega), e2]
    · have e2 : ¬ (nth tINV m).toNat - 1 = i := fun x => e (h ▸ x)
      rw [if_neg e]
      by_cases e3 : (nth tINV m).toNat - 1 < i
      · rw [if_pos e3, if_pos (by omega)]
      · rw [if_neg e3, if_neg (by omega)]
theorem outAt_all (both : List Int) : outAt both 64 = pickB both tINV := by
  apply List.ext_getElem
  · simp [outAt, pickB]; rfl
  · intro m h1 h2
    have hm : m < 64 := by simpa [outAt] using h1
    have hs : ∀ m : Fin 64, (nth tINV m.val).toNat - 1 < 64 := by decide +kernel
    simp only [outAt, pickB, List.getElem_map, List.getElem_range]
    rw [if_pos (hs ⟨m, hm⟩), nth_at tINV m hm]
    rfl
theorem dir_list (dec : Bool) (ks : List (List Int)) (hl : ks.length = 16) (hg : ∀ k ∈ ks, Bits k ∧ k.length = 48) (i : Nat) (hi : i < 16) :
    ∃ kk, (dirB dec ks).take (i + 1) = (dirB dec ks).take i ++ [kk] ∧ Bits kk ∧ kk.length = 48 ∧ kk = ks.getD (if dec = true then 15 - i else i) [] := by
  have hdl : (dirB dec ks).length = 16 := by unfold dirB; split <;> simp [hl]
  have hm : (dirB dec ks)[i]'(by omega) ∈ dirB dec ks := List.getElem_mem _
  have hd := dirB_good (dec := dec) hg _ hm
  refine ⟨(dirB dec ks)[i]'(by omega), List.take_succ_eq_append_getElem (by omega), hd.1, hd.2, ?_⟩
  cases dec
  · simp only [Bool.false_eq_true, if_false]
    rw [List.getD_eq_getElem?_getD, List.getElem?_eq_getElem (by omega)]
    rfl
  · simp only [if_true]
    rw [List.getD_eq_getElem?_getD, List.getElem?_eq_getElem (by omega)]
    show ks.reverse[i]'(by simp [hl]; omega) = _
    rw [List.getElem_reverse]
    simp only [Option.getD_some]
    congr 1
    omega
end Go.Proofs.Ytiejallnkgllnaa.D
namespace Go.Proofs.Ytiejallnkgllnaa
open Go.RowKit Go.Proofs.YtiejallnkgllnaaW.PrintWords Go.Proofs.YtiejallnkgllnaaW.PrintLast Go.Proofs.YtiejallnkgllnaaW.PrintMore Go.Proofs.Ytiejallnkgllnaa.D Go.Proofs.Ytiejallnkgllnaa.B Go.Proofs.Ytiejallnkgllnaa.LQ
set_option linter.unusedVariables false

theorem R_own' {α : Type} {D : Kd α} {w : World} {base n c e : Nat} {ok : Nat → Prop} {A : Option Addr} {xs : List α} (h : Kd.R D e w base ok (.slice A n c) xs) (hp : 0 < xs.length) : ∃ g, A = some ⟨g, 0, none⟩ ∧ base ≤ g := by
  obtain ⟨h0, inner, ho, hr⟩ := h
  obtain ⟨h1, h2⟩ := ho
  rcases h2 with ⟨_, h4⟩ | ⟨g, cap, cur, hv, hb, _⟩
  · omega
  · injection hv with a b
    exact ⟨g, a, hb⟩
/-- A row of rows: where row i lies. -/
theorem row_at {w : World} {g n : Nat} {ks : List (List Int)} (h : Kd.C (Kd.slice 5 (Kd.int .u8)) w (some ⟨g, 0, none⟩) n ks) (i : Nat) (hi : i < n) :
    ∃ A c, w.cell? ⟨g, i, none⟩ = some (.slice A (ks.getD i []).length c) ∧ (ks.getD i []).length ≤ c ∧ Kd.C (Kd.int .u8) w A (ks.getD i []).length (ks.getD i []) := by
  obtain ⟨h1, h2, h3⟩ := h
  obtain ⟨ad, e, hc⟩ := h3 (by omega)
  cases e
  obtain ⟨cs, hl, ⟨A, c, hcs, hle, hC⟩, hcell⟩ := hc i (ks.getD i []) (by rw [List.getElem?_eq_getElem (by omega), List.getD_eq_getElem?_getD, List.getElem?_eq_getElem (by omega)]; rfl)
  subst hcs
  have := hcell 0 _ rfl
  have hs : (Kd.slice 5 (Kd.int .u8)).sz = 1 := rfl
  rw [hs, Addr.add_mid] at this
  exact ⟨A, c, by simpa using this, hle, hC⟩
theorem round32 (A0 : Option Addr) (c0 : Nat) (l0 : List Int) (A1 : Option Addr) (c1 : Nat) (l1 : List Int) (w : World) (hr0 : Kd.C (Kd.int .u8) w A0 32 l0) (hc0 : 32 ≤ c0) (hr1 : Kd.C (Kd.int .u8) w A1 48 l1) (hc1 : 48 ≤ c1)
    (h0 : l0.length = 32) (hb0 : Bits l0) (h1 : l1.length = 48) (hb1 : Bits l1) :
    Calls Try.prog 121 #[.slice A0 32 c0, .slice A1 48 c1] w fun e w' => ∃ g c : Nat, e = .returned (.slice (some ⟨g, 0, none⟩) 32 c) ∧ 32 ≤ c ∧ Kd.C (Kd.int .u8) w' (some ⟨g, 0, none⟩) 32 (roundB l0 l1) ∧ Below w.heap.size w w' := by
  have := spec_l1Round.calls0 A0 c0 l0 A1 c1 l1 w (by rw [h0]; exact hr0) (by omega) (by rw [h1]; exact hr1) (by omega) h0 hb0 h1 hb1
  rw [h0, h1] at this
  refine this.mono ?_
  rintro e w' ⟨v, rfl, hR, hb⟩
  obtain ⟨A, c, ee⟩ := Kd.R_slice hR
  subst ee
  obtain ⟨g, eg, _⟩ := R_own' hR (by rw [roundB_length]; decide)
  subst eg
  have hr := (Kd.R_reads' hR).2
  rw [roundB_length] at hr ⊢
  exact ⟨g, c, rfl, hr.1, hr.2, hb⟩
theorem xor32 (A0 : Option Addr) (c0 : Nat) (l0 : List Int) (A1 : Option Addr) (c1 : Nat) (l1 : List Int) (w : World) (hr0 : Kd.C (Kd.int .u8) w A0 32 l0) (hc0 : 32 ≤ c0) (hr1 : Kd.C (Kd.int .u8) w A1 32 l1) (hc1 : 32 ≤ c1)
    (h0 : l0.length = 32) (hb0 : Bits l0) (h1 : l1.length = 32) (hb1 : Bits l1) :
    Calls Try.prog 45 #[.slice A0 32 c0, .slice A1 32 c1] w fun e w' => ∃ g c : Nat, e = .returned (.slice (some ⟨g, 0, none⟩) 32 c) ∧ 32 ≤ c ∧ Kd.C (Kd.int .u8) w' (some ⟨g, 0, none⟩) 32 (xorB l0 l1) ∧ Below w.heap.size w w' := by
  have hx := spec_xor_eq l0 l1 (by omega) (by omega) 100 (by omega)
  rw [xorL_bits hb0 hb1] at hx
  have := spec_l1Xor.calls 100 A0 c0 l0 A1 c1 l1 _ w (by rw [h0]; exact hr0) (by omega) (by rw [h1]; exact hr1) (by omega) hx
  rw [h0, h1] at this
  have hl : (xorB l0 l1).length = 32 := by rw [xorB_length _ _ (by omega), h0]
  refine this.mono ?_
  rintro e w' ⟨v, rfl, hR, hb⟩
  obtain ⟨A, c, ee⟩ := Kd.R_slice hR
  subst ee
  obtain ⟨g, eg, _⟩ := R_own' hR (by omega)
  subst eg
  have hr := (Kd.R_reads' hR).2
  rw [hl] at hr ⊢
  exact ⟨g, c, rfl, hr.1, hr.2, hb⟩

theorem bits_call (A0 : Option Addr) (c0 : Nat) (l0 : List Int) (h0 : l0.length = 8) (hc0 : 8 ≤ c0) (hx : spec_l1Bits.f 100 l0 = some (bitsOf l0)) (w : World) (hr0 : Kd.C (Kd.int .u8) w A0 8 l0) :
    Calls Try.prog 96 #[.slice A0 8 c0] w fun e w' => ∃ v0_ : Value, e = .returned (v0_) ∧ Kd.R (Kd.int .u8) 5 w' w.heap.size (fun _ => True) v0_ (bitsOf l0) ∧ Below w.heap.size w w' := by
  have := spec_l1Bits.calls 100 A0 c0 l0 _ w (by rw [h0]; exact hr0) (by omega) hx
  rwa [h0] at this
theorem bytes32 (g o cc : Nat) (ci : List Int) (hl : ci.length = 32) (w : World) (h : Kd.C (Kd.int .u8) w (some ⟨g, o, none⟩) 32 ci) (hcc : 32 ≤ cc) :
    Calls Try.prog 97 #[.slice (some ⟨g, o, none⟩) 32 cc] w fun e w' => ∃ v0_ : Value, e = .returned (v0_) ∧ Kd.R (Kd.int .u8) 5 w' w.heap.size (fun _ => True) v0_ ci ∧ Below w.heap.size w w' := by
  have := spec_l1Bytes.calls (some ⟨g, o, none⟩) cc ci ci w (by rw [hl]; exact h) (by omega) (by unfold spec_l1Bytes.f; rw [if_pos (by omega)])
  rwa [hl] at this
theorem C_set {w : World} {k : IntKind} {ad p : Addr} {n : Nat} {xs : List Int} (h : Kd.C (Kd.int k) w (some ad) n xs) (hne : p.block ≠ ad.block) (v : Value) : Kd.C (Kd.int k) (w.setCell p v) (some ad) n xs := by
  obtain ⟨h1, h2, h3⟩ := h
  refine ⟨h1, h2, fun hn => ?_⟩
  obtain ⟨ad', e, hc⟩ := h3 hn
  cases e
  refine ⟨ad, rfl, fun j q hq => ?_⟩
  obtain ⟨c, hl, hk, hcell⟩ := hc j q hq
  refine ⟨c, hl, hk, fun i u hu => ?_⟩
  have : (ad.add (j * (Kd.int k).sz + i)).block = ad.block := by unfold Addr.add; split <;> rfl
  rw [World.cell?_setCell_far _ _ _ _ (by rw [this]; exact hne)]
  exact hcell i u hu
theorem int_cell {w : World} {g n : Nat} {l : List Int} (h : Kd.C (Kd.int .i64) w (some ⟨g, 0, none⟩) n l) (j : Nat) (hj : j < n) : w.cell? ⟨g, j, none⟩ = some (.int .i64 (nth l j)) := by
  obtain ⟨h1, h2, h3⟩ := h
  subst h1
  obtain ⟨ad, e, hc⟩ := C_cells (show Kd.C (Kd.int .i64) w (some ⟨g, 0, none⟩) l.length l from ⟨rfl, h2, h3⟩) (by omega)
  cases e
  have := hc j (.int .i64 (nth l j)) (by simp [nums, hj, nth_at _ _ hj])
  rwa [Addr.add_mid, Nat.zero_add] at this
theorem unbits_call (g cc : Nat) (l0 : List Int) (h0 : l0.length = 64) (hc0 : 64 ≤ cc) (hx : spec_l1Unbits.f 100 l0 = some (unbits l0)) (w : World) (hr0 : Kd.C (Kd.int .u8) w (some ⟨g, 0, none⟩) 64 l0) :
    Calls Try.prog 60 #[.slice (some ⟨g, 0, none⟩) 64 cc] w fun e w' => ∃ v0_ : Value, e = .returned (v0_) ∧ Kd.R (Kd.int .u8) 5 w' w.heap.size (fun _ => True) v0_ (unbits l0) ∧ Below w.heap.size w w' := by
  have := spec_l1Unbits.calls 100 (some ⟨g, 0, none⟩) cc l0 _ w (by rw [h0]; exact hr0) (by omega) hx
  rwa [h0] at this
set_option maxHeartbeats 1000000 in
theorem spec_Des.calls0 (A0 : Option Addr) (c0 : Nat) (n0 : Nat) (A1 : Option Addr) (c1 : Nat) (n1 : Nat) (dec : Bool) (w : World) (h : ¬ (n0 = 8 ∧ n1 = 8)) :
    Calls Try.prog 108 #[.slice A0 n0 c0, .slice A1 n1 c1, .bool dec] w fun e w' => ∃ v0_ : Value, e = .returned (v0_) ∧ Kd.R (Kd.int .u8) 5 w' w.heap.size (fun _ => True) v0_ [] ∧ Below w.heap.size w w' := by
  by_cases h0 : n0 = 8
  · have b0 : ((n0 : Int) != 8) = false := by rw [bne_eq_false_iff_eq]; omega
    have b1 : ((n1 : Int) != 8) = true := by rw [bne_iff_ne]; omega
    clear h
    go_enter Try.func108, Try.ntmps108
    go_wp2_with fail
    go_ret
    exact ⟨_, rfl, Kd.R_nil _ _ _ _ _, Below.refl _ _⟩
  · have b0 : ((n0 : Int) != 8) = true := by rw [bne_iff_ne]; omega
    clear h
    go_enter Try.func108, Try.ntmps108
    go_wp2_with fail
    go_ret
    exact ⟨_, rfl, Kd.R_nil _ _ _ _ _, Below.refl _ _⟩

set_option maxHeartbeats 4000000 in
theorem spec_Des.calls8 (A0 : Option Addr) (c0 : Nat) (l0 : List Int) (A1 : Option Addr) (c1 : Nat) (l1 : List Int) (dec : Bool) (w : World) (hr0 : Kd.C (Kd.int .u8) w A0 8 l0) (hc0 : 8 ≤ c0) (hr1 : Kd.C (Kd.int .u8) w A1 8 l1) (hc1 : 8 ≤ c1)
    (h0 : l0.length = 8) (hb0 : Bytes l0) (h1 : l1.length = 8) (hb1 : Bytes l1) :
    Calls Try.prog 108 #[.slice A0 8 c0, .slice A1 8 c1, .bool dec] w fun e w' => ∃ v0_ : Value, e = .returned (v0_) ∧ Kd.R (Kd.int .u8) 5 w' w.heap.size (fun _ => True) v0_ (desL l0 l1 dec) ∧ Below w.heap.size w w' := by
  have HR1 := Aside0.mk hr1
  have hk := spec_l1Keys.calls0 A0 c0 l0 w (by rw [h0]; exact hr0) (by omega) h0 hb0
  rw [h0] at hk
  have KK := Aside0.mk hk
  have hbits := Aside0.mk (spec_bits_eq l1 (by omega) hb1 100 (by omega))
  have hl64 : (bitsOf l1).length = 64 := by rw [bitsOf_length, h1]
  have hp1 := Aside0.mk (spec_pick_eq (bitsOf l1) tIP (by omega) (by decide) (by rw [hl64]; exact within_ip) 100 (by decide))
  obtain ⟨vb, hvb⟩ : ∃ vb, vb = pickB (bitsOf l1) tIP := ⟨_, rfl⟩
  have hvbb : Bits vb := hvb ▸ pickB_bits (bitsOf_bits _) _
  have hvbl : vb.length = 64 := by rw [hvb, pickB_length]; rfl
  obtain ⟨ks, hks⟩ : ∃ ks, ks = keysB l0 := ⟨_, rfl⟩
  have HKG : Aside0 ((∀ k ∈ ks, Bits k ∧ k.length = 48) ∧ ks.length = 16) := ⟨hks ▸ keysB_good l0, hks ▸ keysB_length l0⟩
  obtain ⟨L, hL⟩ : ∃ l, l = vb.take 32 := ⟨_, rfl⟩
  obtain ⟨Rr, hRr⟩ : ∃ l, l = vb.drop 32 := ⟨_, rfl⟩
  have HP0 : Aside0 (L.length = 32 ∧ Rr.length = 32 ∧ Bits L ∧ Bits Rr) := ⟨by rw [hL, hRr]; exact ⟨by rw [List.length_take]; omega, by rw [List.length_drop]; omega, hvbb.take _, hvbb.drop _⟩⟩
  have HTK : Aside0 ((vb.drop 0).take 32 = L ∧ (vb.drop 32).take 32 = Rr) := ⟨by rw [hL]; rfl, by rw [hRr]; exact List.take_of_length_le (by rw [List.length_drop]; omega)⟩
  have HE0 : Aside0 (desL l0 l1 dec = unbits (pickB ((feist (dirB dec ks) (L, Rr)).2 ++ (feist (dirB dec ks) (L, Rr)).1) tINV)) := ⟨by rw [hL, hRr, hvb, hks]; rfl⟩
  rw [HE0.out]
  rw [← hks] at KK
  rw [← hvb] at hp1
  have HVL := Aside0.mk hvbl
  have HL1 := Aside0.mk h1
  have HL64 := Aside0.mk hl64
  clear hr0 hr1 hc0 h0 hb0 hb1 hl64 hvb hvbb hvbl hks hL hRr hk h1 HE0
  obtain ⟨dks, hdks⟩ : ∃ dks, dks = dirB dec ks := ⟨_, rfl⟩
  rw [← hdks]
  have HDK := Aside0.mk hdks
  clear hdks
  have HKB := Aside0.mk (fun (w1 : World) (h : Kd.C (Kd.int .u8) w1 A1 8 l1) => bits_call A1 c1 l1 HL1.out hc1 hbits.out w1 h)
  clear hc1
  go_enter Try.func108, Try.ntmps108
  go_wp2_with (first | (go_at_call 118; go_must (refine KK.out.mono ?_; rintro e w1 ⟨v1, rfl, hR, hb⟩; obtain ⟨Ak, ck, ek⟩ := Kd.R_slice hR; rw [HKG.out.2] at ek; subst ek; obtain ⟨gk, egk, _⟩ := R_own' hR (by rw [HKG.out.2]; decide); subst egk; have HK := Aside0.mk (Kd.R_reads' hR).2.2; rw [HKG.out.2] at HK; have B1 := Aside0.mk hb; clear hR hb)) | (go_at_call 96; go_must (refine (HKB.out _ (Kd.C_below HR1.out B1.out)).mono ?_; rintro e w2 ⟨v2, rfl, hR, hb⟩; obtain ⟨Ab, cb, eb⟩ := Kd.R_slice hR; subst eb; have HB := Aside0.mk (Kd.R_reads' hR).2; have B2 := Aside0.mk hb; clear hR hb)) | (go_at_call 120; go_must (refine (spec_l1IP.calls 100 tIP _ spec_ip_eq).mono ?_; rintro e w3 ⟨v3, rfl, hR, hb⟩; obtain ⟨At, ct, et⟩ := Kd.R_slice hR; subst et; have HT := Aside0.mk (Kd.R_reads' hR).2; have B3 := Aside0.mk hb; clear hR hb)) | (go_at_call 119; go_must (refine (spec_l1Pick.calls 100 _ _ (bitsOf l1) _ _ tIP _ _ (Kd.C_below HB.out.2 B3.out) HB.out.1 HT.out.2 HT.out.1 hp1.out).mono ?_; rintro e w4 ⟨v4, rfl, hR, hb⟩; obtain ⟨Ax, cx, ex⟩ := Kd.R_slice hR; rw [HVL.out] at ex; subst ex; obtain ⟨gx, egx, _⟩ := R_own' hR (by rw [HVL.out]; decide); subst egx; have HX := Aside0.mk (Kd.R_reads' hR).2; rw [HVL.out] at HX; have hcx := HX.out.1; have B4 := Aside0.mk hb; clear hR hb)))
  have HK4 := Aside0.mk (Kd.C_below HK.out (below_step B2.out (below_step B3.out B4.out)))
  have HW4 := Aside0.mk (below_step B1.out (below_step B2.out (below_step B3.out B4.out)))
  have hL0 := C_at HX.out.2 0 32 (by omega)
  have hR0 := C_at HX.out.2 32 32 (by omega)
  rw [HTK.out.1] at hL0
  rw [HTK.out.2, Nat.zero_add] at hR0
  have HL0 := Aside0.mk hL0
  have HR0 := Aside0.mk hR0
  clear hL0 hR0
  go_loopw [9, 10, 11, 12, 13, 38] (fun v9 v10 v11 v12 v13 v38 wr => ∃ (i gl ol cl gr or_ cr : Nat), i ≤ 16 ∧ v38 = .int .i64 i ∧ v9 = .slice (some ⟨gl, ol, none⟩) 32 cl ∧ v10 = .slice (some ⟨gr, or_, none⟩) 32 cr ∧ 32 ≤ cl ∧ 32 ≤ cr ∧
      Aside0 (Kd.C (Kd.int .u8) wr (some ⟨gl, ol, none⟩) 32 (feist (dks.take i) (L, Rr)).1) ∧ Aside0 (Kd.C (Kd.int .u8) wr (some ⟨gr, or_, none⟩) 32 (feist (dks.take i) (L, Rr)).2) ∧ Aside0 (Below w4.heap.size w4 wr))
    (fun _ _ _ _ _ v38 _ => 16 - (intOf v38).toNat)
  case atStart => exact ⟨0, gx, 0, cx, gx, 32, cx - 32, by omega, rfl, rfl, rfl, by omega, by omega, HL0, HR0, ⟨Below.refl _ _⟩⟩
  case round =>
    obtain ⟨i, gl, ol, cl, gr, or_, cr, hi, rfl, rfl, rfl, hcl, hcr, G1, G2, G3⟩ := hrel
    by_cases hlt : i < 16
    · obtain ⟨kk, t1, t2, t3, t4⟩ := dir_list dec ks HKG.out.2 HKG.out.1 i hlt
      rw [← HDK.out] at t1
      obtain ⟨g1, g2, g3, g4⟩ := feist_good (dks.take i) (L, Rr) HP0.out.1 HP0.out.2.1 HP0.out.2.2.1 HP0.out.2.2.2
      have hf : feist (dks.take (i + 1)) (L, Rr) = ((feist (dks.take i) (L, Rr)).2, xorB (feist (dks.take i) (L, Rr)).1 (roundB (feist (dks.take i) (L, Rr)).2 kk)) := by rw [t1, feist_append]; rfl
      have HF := Aside0.mk hf
      clear hf t1
      obtain ⟨pl, hpl⟩ : ∃ pl, pl = (feist (dks.take i) (L, Rr)).1 := ⟨_, rfl⟩
      obtain ⟨pr, hpr⟩ : ∃ pr, pr = (feist (dks.take i) (L, Rr)).2 := ⟨_, rfl⟩
      rw [← hpl] at g1 g3 HF G1
      rw [← hpr] at g2 g4 HF G2
      clear hpl hpr
      have HG := Aside0.mk (And.intro g1 (And.intro g2 (And.intro g3 (And.intro g4 (And.intro t2 t3)))))
      have hkr := Kd.C_below HK4.out G3.out
      obtain ⟨Ak1, ck1, hk1, hkc1, hkC1⟩ := row_at hkr i hlt
      obtain ⟨Ak2, ck2, hk2, hkc2, hkC2⟩ := row_at hkr (15 - i) (by omega)
      have e15 : (15 - (i : Int)).toNat = 15 - i := by omega
      clear g1 g2 g3 g4 t2 t3 hkr
      cases dec
      · simp only [Bool.false_eq_true, if_false] at t4
        rw [← t4] at hk1 hkc1 hkC1
        have hkl := HG.out.2.2.2.2.2
        rw [hkl] at hk1 hkc1 hkC1
        have HKC := Aside0.mk hkC1
        clear t4 hkC1 hkC2 hkc2 hkl
        go_wp2_with (first | (go_at_call 121; go_must (refine (round32 _ cr pr _ ck1 kk _ G2.out hcr HKC.out hkc1 HG.out.2.1 HG.out.2.2.2.1 HG.out.2.2.2.2.2 HG.out.2.2.2.2.1).mono ?_; rintro e w5 ⟨g5, c5, rfl, hc5, hC5, hb5⟩; have HC5 := Aside0.mk hC5; have HB5 := Aside0.mk hb5; clear hC5 hb5)) | (go_at_call 45; go_must (refine (xor32 _ cl pl _ c5 _ _ (Kd.C_below G1.out HB5.out) hcl HC5.out hc5 HG.out.1 HG.out.2.2.1 (roundB_length _ _) (roundB_bits _ _)).mono ?_; rintro e w6 ⟨g6, c6, rfl, hc6, hC6, hb6⟩; have HC6 := Aside0.mk hC6; have HB6 := Aside0.mk hb6; clear hC6 hb6)))
        go_roundw
        case rel => exact ⟨i + 1, gr, or_, cr, g6, 0, c6, by omega, by go_num, rfl, rfl, hcr, hc6, ⟨by rw [HF.out]; exact Kd.C_below G2.out (below_step HB5.out HB6.out)⟩, ⟨by rw [HF.out]; exact HC6.out⟩, ⟨below_step G3.out (below_step HB5.out HB6.out)⟩⟩
        case measure => simp [intOf]; omega
      · simp only [if_true] at t4
        rw [← t4] at hk2 hkc2 hkC2
        have hkl := HG.out.2.2.2.2.2
        rw [hkl] at hk2 hkc2 hkC2
        have HKC := Aside0.mk hkC2
        clear t4 hkC1 hkC2 hkc1 hkl
        go_wp2_with (first | (go_at_call 121; go_must (refine (round32 _ cr pr _ ck2 kk _ G2.out hcr HKC.out hkc2 HG.out.2.1 HG.out.2.2.2.1 HG.out.2.2.2.2.2 HG.out.2.2.2.2.1).mono ?_; rintro e w5 ⟨g5, c5, rfl, hc5, hC5, hb5⟩; have HC5 := Aside0.mk hC5; have HB5 := Aside0.mk hb5; clear hC5 hb5)) | (go_at_call 45; go_must (refine (xor32 _ cl pl _ c5 _ _ (Kd.C_below G1.out HB5.out) hcl HC5.out hc5 HG.out.1 HG.out.2.2.1 (roundB_length _ _) (roundB_bits _ _)).mono ?_; rintro e w6 ⟨g6, c6, rfl, hc6, hC6, hb6⟩; have HC6 := Aside0.mk hC6; have HB6 := Aside0.mk hb6; clear hC6 hb6)))
        go_roundw
        case rel => exact ⟨i + 1, gr, or_, cr, g6, 0, c6, by omega, by go_num, rfl, rfl, hcr, hc6, ⟨by rw [HF.out]; exact Kd.C_below G2.out (below_step HB5.out HB6.out)⟩, ⟨by rw [HF.out]; exact HC6.out⟩, ⟨below_step G3.out (below_step HB5.out HB6.out)⟩⟩
        case measure => simp [intOf]; omega
    · obtain rfl : i = 16 := by omega
      have hdl : dks.length = 16 := by rw [HDK.out]; unfold dirB; split <;> simp [HKG.out.2]
      rw [List.take_of_length_le (by omega)] at G1 G2
      obtain ⟨g1, g2, g3, g4⟩ := feist_good dks (L, Rr) HP0.out.1 HP0.out.2.1 HP0.out.2.2.1 HP0.out.2.2.2
      obtain ⟨pl, hpl⟩ : ∃ pl, pl = (feist dks (L, Rr)).1 := ⟨_, rfl⟩
      obtain ⟨pr, hpr⟩ : ∃ pr, pr = (feist dks (L, Rr)).2 := ⟨_, rfl⟩
      have HPE : Aside0 ((feist dks (L, Rr)).2 ++ (feist dks (L, Rr)).1 = pr ++ pl) := ⟨by rw [hpl, hpr]⟩
      rw [← hpl] at g1 g3 G1
      rw [← hpr] at g2 g4 G2
      have hbl : (pr ++ pl).length = 64 := by rw [List.length_append]; omega
      have HG := Aside0.mk (And.intro g1 (And.intro g2 (And.intro (g4.append g3) hbl)))
      have KB := Aside0.mk (fun (w1 : World) (h : Kd.C (Kd.int .u8) w1 (some ⟨gr, or_, none⟩) 32 pr) => bytes32 gr or_ cr pr g2 w1 h hcr)
      have HPU := Aside0.mk (spec_unbits_eq (pickB (pr ++ pl) tINV) 8 (by rw [pickB_length]; rfl) (by rw [pickB_length]; decide) (pickB_bits (g4.append g3) _) 100 (by rw [pickB_length]; decide))
      clear hdl hpl hpr g1 g2 g3 g4 hbl
      have hmk : ∀ W : World, (Instr.makeSlice 29 (.int .i64 64) (.int .i64 64)).run Try.prog W = .ok (.slice (some ⟨W.heap.size, 0, none⟩) 64 64) (W.alloc (.cells (nums .u8 (outAt (pr ++ pl) 0)).toArray 5)) := fun W => by
        rw [outAt_zero, ← made_nums]
        exact print_make 29 5 .u8 1 Try.underlying29 info5 (by decide) 64 (by decide) W
      obtain ⟨o0, ho0⟩ : ∃ l, l = outAt (pr ++ pl) 0 := ⟨_, rfl⟩
      rw [← ho0] at hmk
      have HO0 := Aside0.mk ho0
      clear ho0
      have hBo := blk_new wr (.cells (nums .u8 o0).toArray 5)
      have HBO : Aside0 (Blk (wr.alloc (.cells (nums .u8 o0).toArray 5)) wr.heap.size .u8 5 o0) := ⟨hBo⟩
      clear hBo
      go_wp2_with (first | (go_at_call 97; go_must (refine (KB.out _ (Kd.C_alloc G2.out _)).mono ?_; rintro e w5 ⟨v5, rfl, hR, hb⟩; obtain ⟨Aq, cq, eq⟩ := Kd.R_slice hR; rw [HG.out.2.1] at eq; subst eq; have HQ := Aside0.mk hR; have HB5 := Aside0.mk hb; clear hR hb)) | ((with_reducible refine gate_builtin (b := .append) (xs := #[.tmp 61, .tmp 62]) rfl ?_); at_builtin; go_must (refine Kd.R_append_rows (Kd.int .u8) (w0 := wr.alloc (.cells (nums .u8 o0).toArray 5)) (wr.alloc (.cells (nums .u8 o0).toArray 5)).heap.size rfl (.tmp 61) (.tmp 62) 29 5 (.int .u8 0) 1 rfl Try.underlying29 info5 rfl (by decide) (by omega) (.slice Aq 32 cq) pr pl _ _ _ (fun _ => True) (fun _ => False) rfl rfl ?aO ?aR (fun _ _ h => h) (fun _ h => h.elim) ?aF ?aB ?aS ?aL ?_; (case aO => exact HQ.out); (case aR => exact Kd.C_below (Kd.C_alloc G1.out _) HB5.out); (case aF => intro k hk; trivial); (case aB => exact HB5.out); (case aS => exact HB5.out.size); (case aL => rw [HG.out.2.1]; omega); intro v6 w6 ho hb hg hat; obtain ⟨Aa, ca, ea⟩ := Kd.R_slice ho; rw [HG.out.2.2.2] at ea; subst ea; obtain ⟨ga, ega, hga⟩ := R_own' ho (by rw [HG.out.2.2.2]; decide); subst ega; have HA6 := Aside0.mk (Kd.R_reads' ho).2; rw [HG.out.2.2.2] at HA6; have HB6 := Aside0.mk hb; have HGA := Aside0.mk hga; clear ho hb hg hat hga)) | (go_at_call 120; go_must (refine (spec_l1IP.calls 100 tIP _ spec_ip_eq).mono ?_; rintro e w7 ⟨v7, rfl, hR, hb⟩; obtain ⟨At7, ct7, et⟩ := Kd.R_slice hR; subst et; obtain ⟨gt, egt, hgt⟩ := R_own' hR (by decide); subst egt; have HT7 := Aside0.mk (Kd.R_reads' hR).2.2; have HGT := Aside0.mk hgt; have HB7 := Aside0.mk hb; clear hR hb hgt)))
      have X67 := below_step HB6.out HB7.out
      have hBo7 := Aside0.mk (HBO.out.below X67)
      have hA7 := Aside0.mk (Kd.C_below HA6.out.2 HB7.out)
      have hca := HA6.out.1
      have hgo := HBO.out.lt
      have hgab := HGA.out
      have hgtb := HGT.out
      have hsz6 := HB6.out.size
      obtain ⟨go_, hgo_⟩ : ∃ g, g = wr.heap.size := ⟨_, rfl⟩
      have hwb : Aside0 (Below w.heap.size w w7) := ⟨below_step HW4.out (below_step G3.out (below_step (below_alloc (Below.refl _ _) _) X67))⟩
      have hbase : w.heap.size ≤ go_ := by rw [hgo_]; exact (below_step HW4.out G3.out).size
      rw [← hgo_] at hBo7 hgo ⊢
      have hne1 : go_ ≠ ga := by omega
      have hne2 : go_ ≠ gt := by omega
      clear hgo_ hgab hgtb hsz6 hgo HBO hmk X67
      rw [HO0.out] at hBo7
      obtain ⟨both, hboth⟩ : ∃ b, b = pr ++ pl := ⟨_, rfl⟩
      have HBL : Aside0 (both.length = 64) := ⟨by rw [hboth]; exact HG.out.2.2.2⟩
      have HRES : Aside0 (unbits (pickB both tINV) = unbits (pickB ((feist dks (L, Rr)).2 ++ (feist dks (L, Rr)).1) tINV)) := ⟨by rw [HPE.out, hboth]⟩
      rw [← hboth] at hBo7 hA7 HPU
      clear hboth
      go_loopw [16, 17, 66] (fun v16 v17 v66 wi => ∃ j : Nat, j ≤ 64 ∧ v66 = .int .i64 j ∧ Aside0 (Blk wi go_ .u8 5 (outAt both j)) ∧ Aside0 (Kd.C (Kd.int .u8) wi (some ⟨ga, 0, none⟩) 64 both) ∧ Aside0 (Kd.C (Kd.int .i64) wi (some ⟨gt, 0, none⟩) 64 tIP) ∧ Aside0 (Below w.heap.size w wi))
        (fun _ _ v66 _ => 64 - (intOf v66).toNat)
      case atStart => exact ⟨0, by omega, rfl, hBo7, hA7, HT7, hwb⟩
      case round =>
        obtain ⟨j, hj, rfl, J1, J2, J3, J4⟩ := hrel
        by_cases hlj : j < 64
        · have hn := within_ip j hlj
          obtain ⟨m, hm⟩ : ∃ m : Nat, nth tIP j = (m : Int) + 1 := ⟨(nth tIP j).toNat - 1, by omega⟩
          have hm64 : m < 64 := by omega
          have hmn : (nth tIP j).toNat - 1 = m := by omega
          have c1 := int_cell J3.out j hlj
          rw [hm] at c1
          have c2 := own_cell (l := both) (by rw [HBL.out]; exact J2.out) j (by rw [HBL.out]; exact hlj)
          have c3 := J1.out.cell m (by rw [outAt_length]; exact hm64)
          have c4 := J1.out.free m
          have hst := outAt_step both j hlj
          rw [hmn] at hst
          have HST := Aside0.mk hst
          clear hst hn hm hmn
          go_wp2
          go_roundw
          case rel => exact ⟨j + 1, by omega, by go_num, ⟨by rw [← HST.out]; exact J1.out.set m _⟩, ⟨C_set J2.out (by simpa using hne1) _⟩, ⟨C_set J3.out (by simpa using hne2) _⟩, ⟨J4.out.setCell (p := ⟨go_, m, none⟩) hbase _⟩⟩
          case measure => simp [intOf]; omega
        · obtain rfl : j = 64 := by omega
          rw [outAt_all] at J1
          have hR := J1.out.R hbase (by rw [pickB_length]; rfl) (n := 64) (by omega)
          have KU := Aside0.mk (unbits_call go_ 64 (pickB both tINV) (by rw [pickB_length]; rfl) (by omega) HPU.out wr (by have := (Kd.R_reads' hR).2.2; rw [show (pickB both tINV).length = 64 by rw [pickB_length]; rfl] at this; exact this))
          clear hR
          go_wp2_with (go_at_call 60; go_must (refine KU.out.mono ?_; rintro e w9 ⟨v9, rfl, hR9, hb9⟩; have HR9 := Aside0.mk hR9; have HB9 := Aside0.mk hb9; clear hR9 hb9))
          go_ret
          rw [← HRES.out]
          exact ⟨_, rfl, Kd.R_lower HR9.out J4.out.size, below_step J4.out HB9.out⟩
end Go.Proofs.Ytiejallnkgllnaa
namespace Go.Proofs.Ytiejallnkgllnaa
open Go.RowKit Go.Proofs.YtiejallnkgllnaaW.PrintWords Go.Proofs.YtiejallnkgllnaaW.PrintLast Go.Proofs.YtiejallnkgllnaaW.PrintMore
set_option linter.unusedVariables false

def dgB (b : UInt8) : Bool := decide (48 ≤ b.toNat) && decide (b.toNat ≤ 57)
/-- All of the bytes are digits. -/
def allDg (s : ByteArray) : Bool := s.data.toList.all dgB
def digOk (s : ByteArray) (lo hi : Int) : Bool := allDg s && (decide (lo ≤ (s.size : Int)) && decide ((s.size : Int) ≤ hi))

theorem allDg_at {s : ByteArray} (h : allDg s = true) (i : Nat) (hi : i < s.size) : 48 ≤ (s[i]'hi).toNat ∧ (s[i]'hi).toNat ≤ 57 := by
  have := List.all_eq_true.1 h (s[i]'hi) (Array.getElem_mem_toList (xs := s.data) hi)
  simp only [dgB, Bool.and_eq_true, decide_eq_true_eq] at this
  exact this
theorem allDg_of {s : ByteArray} (h : ∀ i (hi : i < s.size), 48 ≤ (s[i]'hi).toNat ∧ (s[i]'hi).toNat ≤ 57) : allDg s = true := by
  refine List.all_eq_true.2 fun b hb => ?_
  obtain ⟨i, hi, rfl⟩ := List.getElem_of_mem hb
  have := h i (by simpa using hi)
  simp only [dgB, Bool.and_eq_true, decide_eq_true_eq]
  exact this
theorem allDg_not {s : ByteArray} (i : Nat) (hi : i < s.size) (h : ¬ (48 ≤ (s[i]'hi).toNat ∧ (s[i]'hi).toNat ≤ 57)) : allDg s = false := by
  cases he : allDg s with
  | false => rfl
  | true => exact absurd (allDg_at he i hi) h

set_option maxHeartbeats 1000000 in
theorem impl_isDigitRune.yes (n : Int) (w : World) (h0 : 48 ≤ n) (h1 : n ≤ 57) :
    Calls Try.prog 76 #[.int .i32 n] w fun e w' => e = .returned (.bool true) ∧ w' = w := by
  go_enter Try.func76, Try.ntmps76
  go_wp2
  all_goals (go_ret; exact ⟨rfl, rfl⟩)
set_option maxHeartbeats 1000000 in
theorem impl_isDigitRune.no (n : Int) (w : World) (h : n < 48 ∨ 57 < n) :
    Calls Try.prog 76 #[.int .i32 n] w fun e w' => e = .returned (.bool false) ∧ w' = w := by
  rcases h with h | h
  · go_enter Try.func76, Try.ntmps76
    go_wp2
    all_goals (go_ret; exact ⟨rfl, rfl⟩)
  · have h2 : 48 ≤ n := by omega
    have h3 : decide (n ≤ 57) = false := decide_eq_false (by omega)
    go_enter Try.func76, Try.ntmps76
    go_wp2
    all_goals (go_ret; exact ⟨rfl, rfl⟩)

theorem allDg_true {s : ByteArray} {p : Nat} (h : ∀ i (hi : i < s.size), i < p → 48 ≤ (s[i]'hi).toNat ∧ (s[i]'hi).toNat ≤ 57) (hp : ¬ p < s.size) : allDg s = true := allDg_of fun i hi => h i hi (by omega)
set_option maxHeartbeats 2000000 in
theorem impl_digits.calls (s : ByteArray) (lo hi : Int) (w : World) (hs : s.size ≤ 4611686018427387904) :
    Calls Try.prog 49 #[.string s, .int .i64 lo, .int .i64 hi] w fun e w' => e = .returned (.bool (digOk s lo hi)) ∧ Below w.heap.size w w' := by
  have HS := Aside0.mk hs
  clear hs
  go_enter Try.func49, Try.ntmps49
  go_wp2_with fail
  go_loopw [6, 8, 11, 12] (fun v6 v8 v11 v12 w' => ∃ pos : Nat, w' = w.iter s pos ∧ pos ≤ s.size ∧ Aside0 (∀ i (hi : i < s.size), i < pos → 48 ≤ (s[i]'hi).toNat ∧ (s[i]'hi).toNat ≤ 57)) (fun _ _ _ _ w' => s.size - w'.iterPos w.heap.size)
  case atStart => exact ⟨0, rfl, Nat.zero_le _, ⟨fun i hi h => absurd h (by omega)⟩⟩
  case round =>
    obtain ⟨pos, rfl, hle, HD⟩ := hrel
    by_cases hp : pos < s.size
    · by_cases hd : 48 ≤ (s[pos]'hp).toNat ∧ (s[pos]'hp).toNat ≤ 57
      · have hnx : ∀ ty, (Instr.next (.pointer (some ⟨w.heap.size, 0, none⟩)) true ty).run Try.prog (w.iter s pos) = _ := fun ty => run_next_ascii w s pos ty hp (by omega)
        have HD' : Aside0 (∀ i (hi : i < s.size), i < pos + 1 → 48 ≤ (s[i]'hi).toNat ∧ (s[i]'hi).toNat ≤ 57) := ⟨fun i hi h => by
          rcases Nat.lt_or_ge i pos with h' | h'
          · exact HD.out i hi h'
          · obtain rfl : i = pos := by omega
            exact hd⟩
        obtain ⟨c, hc⟩ : ∃ c, c = (s[pos]'hp).toNat := ⟨_, rfl⟩
        rw [← hc] at hd hnx
        obtain ⟨hd0, hd1⟩ := hd
        clear hc HD
        go_wp2_with (go_at_call 76; refine (impl_isDigitRune.yes _ _ (by omega) (by omega)).mono ?_; rintro e w1 ⟨rfl, rfl⟩)
        go_roundw
        case rel => exact ⟨pos + 1, rfl, by omega, HD'⟩
        case measure => simp; omega
      · have hnx : ∀ ty, (Instr.next (.pointer (some ⟨w.heap.size, 0, none⟩)) true ty).run Try.prog (w.iter s pos) = _ := fun ty => run_next_any w s pos ty hp
        have hrune : ((Utf8.decode s pos).1 : Int) < 48 ∨ 57 < ((Utf8.decode s pos).1 : Int) := by
          by_cases ha : (s[pos]'hp).toNat < 128
          · rw [decode_ascii s pos hp ha]
            simp only
            omega
          · have := (decode_high s pos hp (by omega)).1
            omega
        have he : Aside0 (digOk s lo hi = false) := ⟨by unfold digOk; rw [allDg_not pos hp hd]; rfl⟩
        obtain ⟨c, hc⟩ : ∃ c, c = Utf8.decode s pos := ⟨_, rfl⟩
        rw [← hc] at hrune hnx
        clear hc hd HD
        have HR := Aside0.mk hrune
        clear hrune
        go_wp2_with (go_at_call 76; refine (impl_isDigitRune.no _ _ HR.out).mono ?_; rintro e w1 ⟨rfl, rfl⟩)
        go_ret
        rw [he.out]
        exact ⟨rfl, (Below.refl _ _).alloc (Nat.le_refl _) _⟩
    · have hnx : ∀ ty, (Instr.next (.pointer (some ⟨w.heap.size, 0, none⟩)) true ty).run Try.prog (w.iter s pos) = _ := fun ty => run_next_end w s pos ty hp
      have he : Aside0 (digOk s lo hi = (decide (lo ≤ (s.size : Int)) && decide ((s.size : Int) ≤ hi))) := ⟨by unfold digOk; rw [allDg_true HD.out hp]; rfl⟩
      clear HD hp
      obtain ⟨n, hn⟩ : ∃ n : Int, n = (s.size : Int) := ⟨_, rfl⟩
      rw [← hn] at he
      by_cases h1 : lo ≤ n
      all_goals by_cases h2 : n ≤ hi
      all_goals
        rw [hn] at h1 h2
        go_wp2
        go_ret
        refine ⟨?_, (Below.refl _ _).alloc (Nat.le_refl _) _⟩
        rw [he.out, hn]
        simp [h1, h2]
end Go.Proofs.Ytiejallnkgllnaa
namespace Go.Proofs.Ytiejallnkgllnaa
open Go.RowKit Go.Proofs.YtiejallnkgllnaaW.PrintWords Go.Proofs.YtiejallnkgllnaaW.PrintLast Go.Proofs.YtiejallnkgllnaaW.PrintMore Go.Proofs.Ytiejallnkgllnaa.D
set_option linter.unusedVariables false
theorem info8 : (Try.prog.info? 84).map (·.size) = some 8 := by kernel_rfl
def Nibs (ds : List Int) : Prop := ∀ d ∈ ds, 0 ≤ d ∧ d ≤ 15
def hexc (d : Int) : Int := if d < 10 then 48 + d else 55 + d
/-- The bytes of a string as numbers. -/
def bI (s : ByteArray) : List Int := s.data.toList.map fun b => (b.toNat : Int)
theorem bI_length (s : ByteArray) : (bI s).length = s.size := by simp [bI]
theorem bI_at (s : ByteArray) (i : Nat) (h : i < s.size) : ((s[i]'h).toNat : Int) = nth (bI s) i := by
  rw [nth_at _ _ (by rw [bI_length]; exact h)]
  simp [bI]
  rfl
/-- s is the text of the digits ds. -/
def HexOf (s : ByteArray) (ds : List Int) : Prop := bI s = ds.map hexc ∧ Nibs ds
theorem HexOf.size {s : ByteArray} {ds : List Int} (h : HexOf s ds) : s.size = ds.length := by rw [← bI_length, h.1, List.length_map]
theorem HexOf.at {s : ByteArray} {ds : List Int} (h : HexOf s ds) (i : Nat) (hi : i < s.size) : ((s[i]'hi).toNat : Int) = hexc (nth ds i) := by
  have hl := h.size
  rw [bI_at, h.1, nth_at _ _ (by simp; omega), nth_at _ _ (by omega), List.getElem_map]
theorem Nibs.at {ds : List Int} (h : Nibs ds) (i : Nat) (hi : i < ds.length) : 0 ≤ nth ds i ∧ nth ds i ≤ 15 := by rw [nth_at _ _ hi]; exact h _ (List.getElem_mem hi)
theorem Nibs.take {ds : List Int} (h : Nibs ds) (k : Nat) : Nibs (ds.take k) := fun d hd => h d (List.mem_of_mem_take hd)
theorem Nibs.drop {ds : List Int} (h : Nibs ds) (k : Nat) : Nibs (ds.drop k) := fun d hd => h d (List.mem_of_mem_drop hd)
theorem Nibs.app {a b : List Int} (h : Nibs a) (h' : Nibs b) : Nibs (a ++ b) := fun d hd => by rcases List.mem_append.1 hd with x | x; exact h d x; exact h' d x

set_option maxHeartbeats 1000000 in
theorem impl_digit.at (d : Int) (w : World) (h0 : 0 ≤ d) (h1 : d ≤ 15) :
    Calls Try.prog 77 #[.int .u8 (hexc d)] w fun e w' => e = .returned (.int .u64 d) ∧ w' = w := by
  unfold hexc
  by_cases h : d < 10
  · rw [if_pos h]
    have c1 : decide (65 ≤ 48 + d) = false := decide_eq_false (by omega)
    go_enter Try.func77, Try.ntmps77
    go_wp2
    all_goals (go_ret; exact ⟨by congr 2; simp; omega, rfl⟩)
  · rw [if_neg h]
    have c1 : decide (65 ≤ 55 + d) = true := decide_eq_true (by omega)
    go_enter Try.func77, Try.ntmps77
    go_wp2
    all_goals (go_ret; exact ⟨by congr 2; simp; omega, rfl⟩)

def outN (v : Int) (i : Nat) : List Int := (List.range i).map (fun j => v / 2 ^ (56 - 8 * j) % 256) ++ List.replicate (8 - i) 0
theorem outN_length (v : Int) (i : Nat) (hi : i ≤ 8) : (outN v i).length = 8 := by simp [outN]; omega
theorem outN_step (v : Int) (i : Nat) (hi : i < 8) : (outN v i).set i (v / 2 ^ (56 - 8 * i) % 256) = outN v (i + 1) := by
  unfold outN
  rw [show 8 - i = (8 - (i + 1)) + 1 by omega, List.replicate_succ, List.range_succ, List.map_append]
  have hset : ∀ (pre : List Int) (v : Int) (rest : List Int), pre.length = i → (pre ++ 0 :: rest).set i v = pre ++ v :: rest := by
    intro pre v rest hp
    subst hp
    simp
  rw [hset _ _ _ (by simp), List.append_assoc]
  rfl

set_option maxHeartbeats 1000000 in
theorem impl_blockOf.at (v : Int) (w : World) (h0 : 0 ≤ v) (h1 : v < 18446744073709551616) :
    Calls Try.prog 78 #[.int .u64 v] w fun e w' => e = .returned (.agg (nums .u8 (outN v 8)).toArray) ∧ Below w.heap.size w w' := by
  go_enter Try.func78, Try.ntmps78
  go_wp2_with fail
  go_loopw [6] (fun i wr => ∃ k : Nat, k ≤ 8 ∧ i = .int .i64 k ∧ Aside0 (Blk wr (w.heap.size + 1) .u8 84 (outN v k)) ∧ Aside0 (Blk wr w.heap.size .u8 84 (List.replicate 8 0)) ∧ Aside0 (Below w.heap.size w wr))
    (fun i _ => 8 - (intOf i).toNat)
  case atStart => exact ⟨0, by omega, rfl, ⟨by have h_ := blk_new (w.alloc (.cells (nums .u8 (List.replicate 8 0)).toArray 84)) (.cells (nums .u8 (List.replicate 8 0)).toArray 84); simpa [nums, Blk, outN, List.replicate] using h_⟩, ⟨by have h_ := blk_alloc (blk_new w (.cells (nums .u8 (List.replicate 8 0)).toArray 84)) (.cells (nums .u8 (List.replicate 8 0)).toArray 84); simpa [nums, Blk, List.replicate] using h_⟩, ⟨((Below.refl _ _).alloc (Nat.le_refl _) _).alloc (by simp) _⟩⟩
  case round =>
    obtain ⟨k, hk, rfl, HO, HZ, HW⟩ := hrel
    by_cases hlt : k < 8
    · have hc := HO.out.cell k (by rw [outN_length v k hk]; exact hlt)
      have hf := HO.out.free k
      have HS := Aside0.mk (outN_step v k hlt)
      have hset := Aside0.mk (HO.out.set k (v / 2 ^ (56 - 8 * k) % 256))
      have hz := Aside0.mk (HZ.out.far (p := ⟨w.heap.size + 1, k, none⟩) (by simp) (.int .u8 (v / 2 ^ (56 - 8 * k) % 256)))
      have hw := Aside0.mk (HW.out.setCell (p := ⟨w.heap.size + 1, k, none⟩) (by simp) (.int .u8 (v / 2 ^ (56 - 8 * k) % 256)))
      have e8 : (56 - 8 * (k : Int)).toNat = 56 - 8 * k := by omega
      go_wp2
      go_roundw
      case rel =>
        refine ⟨k + 1, by omega, by go_num, ?_, ?_, ?_⟩
        · rw [← HS.out]
          first | exact hset | (simp only [e8] at *; exact hset)
        · first | exact hz
        · first | exact hw
      case measure => simp [intOf]; omega
    · obtain rfl : k = 8 := by omega
      have HL := Aside0.mk (outN_length v 8 (by omega))
      go_wp2_with (first | (with_reducible refine wpList_load_blk rfl 84 (.tmp 3) rfl (w.heap.size + 1) rfl Try.underlying84 info8 HO.out HL.out ?_) | (with_reducible refine wpList_store_blk rfl 84 (.tmp 2) (.tmp 18) rfl w.heap.size rfl info8 rfl HZ.out (by simp) HL.out ?_))
      refine bodyPost_ret (results_blk rfl _ _ w.heap.size Try.underlying84 info8 rfl (HZ.out.setRow _) HL.out) rfl ⟨rfl, below_setRow HW.out (Nat.le_refl _) _⟩

/-- The number that hex digits make. -/
def numH (ds : List Int) : Int := ds.foldl (fun a d => a * 16 + d) 0
theorem numH_snoc (ds : List Int) (d : Int) : numH (ds ++ [d]) = numH ds * 16 + d := by simp [numH, List.foldl_append]
theorem numH_acc (ds : List Int) : ∀ a : Int, ds.foldl (fun a d => a * 16 + d) a = a * 16 ^ ds.length + numH ds := by
  induction ds with
  | nil => intro a; simp [numH]
  | cons d ds ih =>
    intro a
    have h1 := ih (a * 16 + d)
    have h2 := ih (0 * 16 + d)
    unfold numH
    simp only [List.foldl_cons, List.length_cons] at *
    rw [h1, h2, Int.pow_succ, Int.add_mul, Int.add_mul, Int.mul_assoc, Int.mul_comm 16 (16 ^ ds.length)]
    omega
theorem numH_app (a b : List Int) : numH (a ++ b) = numH a * 16 ^ b.length + numH b := by
  unfold numH
  rw [List.foldl_append]
  exact numH_acc b _
theorem numH_bound (ds : List Int) (h : Nibs ds) : 0 ≤ numH ds ∧ numH ds < 16 ^ ds.length := by
  induction ds with
  | nil => simp [numH]
  | cons d ds ih =>
    obtain ⟨i0, i1⟩ := ih (fun x hx => h x (List.mem_cons_of_mem _ hx))
    have hd := h d (by simp)
    have e : numH (d :: ds) = d * 16 ^ ds.length + numH ds := by
      have := numH_app [d] ds
      simpa [numH] using this
    rw [e, List.length_cons, Int.pow_succ]
    have hp : (0 : Int) < 16 ^ ds.length := Int.pow_pos (by decide)
    have h1 : 0 ≤ d * 16 ^ ds.length := Int.mul_nonneg hd.1 (Int.le_of_lt hp)
    have h2 : d * 16 ^ ds.length ≤ 15 * 16 ^ ds.length := Int.mul_le_mul_of_nonneg_right hd.2 (Int.le_of_lt hp)
    omega
theorem take_nth (ds : List Int) (k : Nat) (h : k < ds.length) : ds.take (k + 1) = ds.take k ++ [nth ds k] := by
  rw [List.take_succ_eq_append_getElem h, nth_at _ _ h]

set_option maxHeartbeats 1000000 in
theorem impl_packed.at (s : ByteArray) (ds : List Int) (w : World) (h : HexOf s ds) (hl : ds.length ≤ 16) :
    Calls Try.prog 55 #[.string s] w fun e w' => e = .returned (.agg (nums .u8 (outN (numH ds) 8)).toArray) ∧ Below w.heap.size w w' := by
  have HH := Aside0.mk h
  have HS := Aside0.mk h.size
  have HL := Aside0.mk hl
  have hsz : s.size ≤ 16 := by rw [h.size]; exact hl
  clear h hl
  go_enter Try.func55, Try.ntmps55
  go_wp2_with fail
  go_loopw [3, 4, 7] (fun v3 v4 v7 wr => ∃ k : Nat, k ≤ s.size ∧ v7 = .int .i64 k ∧ v3 = .int .u64 (numH (ds.take k)) ∧ Aside0 (Blk wr w.heap.size .u8 84 (List.replicate 8 0)) ∧ Aside0 (Below w.heap.size w wr))
    (fun _ _ v7 _ => s.size - (intOf v7).toNat)
  case atStart => exact ⟨0, by omega, rfl, rfl, ⟨by have h_ := blk_new w (.cells (nums .u8 (List.replicate 8 0)).toArray 84); simpa [nums, Blk, List.replicate] using h_⟩, ⟨(Below.refl _ _).alloc (Nat.le_refl _) _⟩⟩
  case round =>
    obtain ⟨k, hk, rfl, rfl, HZ, HB⟩ := hrel
    by_cases hlt : k < s.size
    · have hkd : k < ds.length := by rw [← HS.out]; exact hlt
      have hcell := HH.out.at k hlt
      obtain ⟨d0, d1⟩ := HH.out.2.at k hkd
      have hb := numH_bound _ (HH.out.2.take k)
      have hnx := Aside0.mk (numH_snoc (ds.take k) (nth ds k))
      rw [← take_nth ds k hkd] at hnx
      have hb2 : numH (ds.take k) < 1152921504606846976 := by
        have h1 : (ds.take k).length ≤ 15 := by rw [List.length_take]; omega
        have h2 : (16 : Int) ^ (ds.take k).length ≤ 16 ^ 15 := by exact_mod_cast Nat.pow_le_pow_right (by decide) h1
        have h3 : (16 : Int) ^ 15 = 1152921504606846976 := by decide
        omega
      have hb0 := hb.1
      clear hb
      obtain ⟨n, hn⟩ : ∃ n, n = numH (ds.take k) := ⟨_, rfl⟩
      rw [← hn] at hb0 hb2 hnx ⊢
      obtain ⟨d, hd⟩ : ∃ d, d = nth ds k := ⟨_, rfl⟩
      rw [← hd] at d0 d1 hnx hcell
      clear hn hd
      have hor := Aside0.mk (or_join n d 4 (by decide) hb0 d0 (by omega) (by omega))
      have hw : IntKind.u64.wrap (n * 16) = n * 16 := by unfold IntKind.wrap; simp [IntKind.bits, IntKind.signed]; omega
      rw [show (2 : Int) ^ 4 = 16 by decide] at hor
      go_wp2_with (go_at_call 77; refine (impl_digit.at d _ d0 d1).mono ?_; rintro e w1 ⟨rfl, rfl⟩)
      go_roundw
      case rel => exact ⟨k + 1, by omega, by go_num, by rw [hnx.out, ← hor.out], HZ, HB⟩
      case measure => simp [intOf]; omega
    · obtain rfl : k = s.size := by omega
      have hall : ds.take s.size = ds := List.take_of_length_le (by rw [HS.out]; exact Nat.le_refl _)
      have hb := numH_bound _ HH.out.2
      have hb2 : numH ds < 18446744073709551616 := by
        have h2 : (16 : Int) ^ ds.length ≤ 16 ^ 16 := by exact_mod_cast Nat.pow_le_pow_right (by decide) HL.out
        have h3 : (16 : Int) ^ 16 = 18446744073709551616 := by decide
        omega
      rw [hall]
      have H0 := Aside0.mk hb.1
      have H2 := Aside0.mk hb2
      have HLN := Aside0.mk (outN_length (numH ds) 8 (by omega))
      clear hb hb2 hall
      go_wp2_with (first | (go_at_call 78; refine (impl_blockOf.at _ _ H0.out H2.out).mono ?_; rintro e w1 ⟨rfl, hb⟩; have HZ1 := Aside0.mk (HZ.out.below hb); have HB1 := Aside0.mk (below_step HB.out hb); clear hb) | (with_reducible refine wpList_store_blk rfl 84 (.tmp 2) (.tmp 19) rfl w.heap.size rfl info8 rfl HZ1.out (by simp) HLN.out ?_))
      refine bodyPost_ret (results_blk rfl _ _ w.heap.size Try.underlying84 info8 rfl (HZ1.out.setRow _) HLN.out) rfl ⟨rfl, below_setRow HB1.out (Nat.le_refl _) _⟩

theorem bI_append (a b : ByteArray) : bI (a ++ b) = bI a ++ bI b := by simp [bI]
theorem bI_extract (s : ByteArray) (a b : Nat) : bI (s.extract a b) = ((bI s).drop a).take (b - a) := by
  simp [bI, ByteArray.data_extract, Array.toList_extract, List.extract_eq_take_drop, List.map_take, List.map_drop]
/-- The digits of a number's text. -/
def dgs (s : ByteArray) : List Int := (bI s).map (· - 48)
theorem dgs_length (s : ByteArray) : (dgs s).length = s.size := by rw [dgs, List.length_map, bI_length]
theorem allDg_bI {s : ByteArray} (h : allDg s = true) : ∀ x ∈ bI s, 48 ≤ x ∧ x ≤ 57 := by
  intro x hx
  obtain ⟨b, hb, rfl⟩ := List.mem_map.1 hx
  have := List.all_eq_true.1 h b hb
  simp only [dgB, Bool.and_eq_true, decide_eq_true_eq] at this
  omega
theorem hex_dig (l : List Int) (h : ∀ x ∈ l, 48 ≤ x ∧ x ≤ 57) : l = (l.map (· - 48)).map hexc := by
  rw [List.map_map]
  conv => lhs; rw [← List.map_id l]
  refine List.map_congr_left fun x hx => ?_
  have := h x hx
  simp only [id, Function.comp, hexc]
  rw [if_pos (by omega)]
  omega
theorem nibs_dig (l : List Int) (h : ∀ x ∈ l, 48 ≤ x ∧ x ≤ 57) : Nibs (l.map (· - 48)) := fun d hd => by
  obtain ⟨x, hx, rfl⟩ := List.mem_map.1 hd
  have := h x hx
  constructor <;> omega
theorem HexOf.app {a b : ByteArray} {x y : List Int} (h : HexOf a x) (h' : HexOf b y) : HexOf (a ++ b) (x ++ y) := ⟨by rw [bI_append, h.1, h'.1, List.map_append], h.2.app h'.2⟩
theorem HexOf.dig {s : ByteArray} (h : allDg s = true) : HexOf s (dgs s) := ⟨hex_dig _ (allDg_bI h), nibs_dig _ (allDg_bI h)⟩
/-- The account's field of a PAN, as digits. -/
def accD (s : ByteArray) : List Int := [0, 0, 0, 0] ++ ((dgs s).drop (s.size - 13)).take 12
theorem accD_length (s : ByteArray) (h : 13 ≤ s.size) : (accD s).length = 16 := by simp [accD, dgs_length]; omega
theorem accD_nibs {s : ByteArray} (h : allDg s = true) : Nibs (accD s) := Nibs.app (fun d hd => by simp at hd; omega) (((HexOf.dig h).2.drop _).take _)
theorem HexOf.acc {s : ByteArray} (h : allDg s = true) (h13 : 13 ≤ s.size) : HexOf (⟨#[48, 48, 48, 48]⟩ ++ s.extract (s.size - 13) (s.size - 1)) (accD s) := by
  refine HexOf.app ⟨by decide, fun d hd => by simp at hd; omega⟩ ⟨?_, ((HexOf.dig h).2.drop _).take _⟩
  rw [bI_extract, show s.size - 1 - (s.size - 13) = 12 by omega]
  conv => lhs; rw [hex_dig _ (allDg_bI h)]
  rw [List.map_take, List.map_drop]
  rfl

set_option maxHeartbeats 1000000 in
theorem impl_account.at (s : ByteArray) (w : World) (h : allDg s = true) (h13 : 13 ≤ s.size) (h19 : s.size ≤ 19) :
    Calls Try.prog 52 #[.string s] w fun e w' => e = .returned (.agg (nums .u8 (outN (numH (accD s)) 8)).toArray) ∧ Below w.heap.size w w' := by
  have HP := Aside0.mk (HexOf.acc h h13)
  have HL := Aside0.mk (Nat.le_of_eq (accD_length s h13))
  have HLN := Aside0.mk (outN_length (numH (accD s)) 8 (by omega))
  have HZ : Aside0 (Blk (w.alloc (.cells (nums .u8 (List.replicate 8 0)).toArray 84)) w.heap.size .u8 84 (List.replicate 8 0)) := ⟨blk_new w _⟩
  have HB : Aside0 (Below w.heap.size w (w.alloc (.cells (nums .u8 (List.replicate 8 0)).toArray 84))) := ⟨(Below.refl _ _).alloc (Nat.le_refl _) _⟩
  clear h
  go_enter Try.func52, Try.ntmps52
  go_wp2_with (first | (go_at_call 55; refine (impl_packed.at _ _ _ HP.out HL.out).mono ?_; rintro e w1 ⟨rfl, hb⟩; have HZ1 := Aside0.mk (HZ.out.below hb); have HB1 := Aside0.mk (below_step HB.out hb); clear hb) | (with_reducible refine wpList_store_blk rfl 84 (.tmp 2) (.tmp 12) rfl w.heap.size rfl info8 rfl HZ1.out (by simp) HLN.out ?_))
  refine bodyPost_ret (results_blk rfl _ _ w.heap.size Try.underlying84 info8 rfl (HZ1.out.setRow _) HLN.out) rfl ⟨rfl, below_setRow HB1.out (Nat.le_refl _) _⟩
end Go.Proofs.Ytiejallnkgllnaa
namespace Go.Proofs.Ytiejallnkgllnaa
open Go.RowKit Go.Proofs.YtiejallnkgllnaaW.PrintWords Go.Proofs.YtiejallnkgllnaaW.PrintLast Go.Proofs.YtiejallnkgllnaaW.PrintMore Go.Proofs.Ytiejallnkgllnaa.D
open Go.Proofs.Ytiejallnkgllnaa.B (xorL xorL_length)
set_option linter.unusedVariables false

def foldX (L : Nat → List Int) : Nat → List Int
  | 0 => List.replicate 8 0
  | k + 1 => xorL (foldX L k) (L k)
theorem foldX_length (L : Nat → List Int) (h : ∀ k, (L k).length = 8) (k : Nat) : (foldX L k).length = 8 := by
  induction k with
  | zero => rfl
  | succ k ih => rw [foldX, xorL_length _ _ (by rw [ih, h]; exact Nat.le_refl _), ih]
def xorTo (a b : List Int) (i : Nat) : List Int := xorL (a.take i) (b.take i) ++ a.drop i
theorem xorTo_length (a b : List Int) (i : Nat) (ha : a.length = 8) (hb : b.length = 8) (hi : i ≤ 8) : (xorTo a b i).length = 8 := by
  simp [xorTo, xorL, ha, hb]; omega
theorem xorTo_zero (a b : List Int) : xorTo a b 0 = a := by simp [xorTo, xorL]
theorem xorTo_all (a b : List Int) (ha : a.length = 8) (hb : b.length = 8) : xorTo a b 8 = xorL a b := by
  unfold xorTo
  rw [List.take_of_length_le (by omega), List.take_of_length_le (by omega), List.drop_of_length_le (by omega), List.append_nil]
theorem xorTo_nth (a b : List Int) (i : Nat) (ha : a.length = 8) (hb : b.length = 8) (hi : i < 8) : nth (xorTo a b i) i = nth a i := by
  have h : (xorL (a.take i) (b.take i)).length = i := by rw [xorL_length _ _ (by simp; omega)]; simp; omega
  rw [nth_at _ _ (by rw [xorTo_length a b i ha hb (by omega)]; exact hi), nth_at _ _ (by omega)]
  unfold xorTo
  rw [List.getElem_append_right (by omega), List.getElem_drop]
  congr 1
  omega
theorem xorTo_step (a b : List Int) (i : Nat) (ha : a.length = 8) (hb : b.length = 8) (hi : i < 8) : (xorTo a b i).set i (Go.bits .xor .u8 (nth a i) (nth b i)) = xorTo a b (i + 1) := by
  have h : (xorL (a.take i) (b.take i)).length = i := by rw [xorL_length _ _ (by simp; omega)]; simp; omega
  have e : xorL (a.take (i + 1)) (b.take (i + 1)) = xorL (a.take i) (b.take i) ++ [Go.bits .xor .u8 (nth a i) (nth b i)] := by
    rw [List.take_succ_eq_append_getElem (by omega), List.take_succ_eq_append_getElem (by omega), nth_at a i (by omega), nth_at b i (by omega)]
    unfold xorL
    rw [List.zipWith_append (by simp; omega)]
    rfl
  unfold xorTo
  rw [e, ← List.getElem_cons_drop (show i < a.length by omega), List.set_append_right _ _ (by omega), h, Nat.sub_self, List.set_cons_zero, List.append_assoc]
  rfl

set_option maxHeartbeats 4000000 in
theorem impl_xor8.calls (L : Nat → List Int) (n c g : Nat) (w : World) (hn : n ≤ 4) (hL : ∀ k, (L k).length = 8) (hel : ∀ k, k < n → w.rangeAt g (8 * k) (nums .u8 (L k))) :
    Calls Try.prog 51 #[.slice (some ⟨g, 0, none⟩) n c] w fun e w' => e = .returned (.agg (nums .u8 (foldX L n)).toArray) ∧ Below w.heap.size w w' := by
  have HL := Aside0.mk hL
  have HE := Aside0.mk hel
  clear hL hel
  go_enter Try.func51, Try.ntmps51
  go_wp2_with fail
  go_loopw [5, 6, 10] (fun v5 v6 v10 wr => ∃ k : Nat, k ≤ n ∧ v10 = .int .i64 k ∧ Aside0 (Blk wr (w.heap.size + 1) .u8 84 (foldX L k)) ∧ Aside0 (Blk wr w.heap.size .u8 84 (List.replicate 8 0)) ∧ Aside0 (Below w.heap.size w wr))
    (fun _ _ v10 _ => n - (intOf v10).toNat)
  case atStart => exact ⟨0, by omega, rfl, ⟨by have h_ := blk_new (w.alloc (.cells (nums .u8 (List.replicate 8 0)).toArray 84)) (.cells (nums .u8 (List.replicate 8 0)).toArray 84); simpa [nums, Blk, foldX, List.replicate] using h_⟩, ⟨by have h_ := blk_alloc (blk_new w (.cells (nums .u8 (List.replicate 8 0)).toArray 84)) (.cells (nums .u8 (List.replicate 8 0)).toArray 84); simpa [nums, Blk, List.replicate] using h_⟩, ⟨((Below.refl _ _).alloc (Nat.le_refl _) _).alloc (by simp) _⟩⟩
  case round =>
    obtain ⟨k, hk, rfl, HO, HZ, HW⟩ := hrel
    by_cases hlt : k < n
    · have hr := HE.out k hlt
      have HR : Aside0 (wr.rangeAt g (k * 8) (nums .u8 (L k))) := ⟨by rw [Nat.mul_comm k 8]; exact fun j v hv => (HW.out.cell (World.block_lt_of_cell? w _ (hr j v hv))).trans (hr j v hv)⟩
      clear hr
      have hl8 : Aside0 ((nums .u8 (L k)).length = 8) := ⟨by rw [nums_length]; exact HL.out k⟩
      have hc0 : ⟨g, 8 * k, none⟩ = (⟨g, 0, none⟩ : Addr).add (k * 8) := by rw [Addr.add_mid]; congr 1; omega
      have hnew : Blk (wr.alloc (.cells #[.int .u8 0, .int .u8 0, .int .u8 0, .int .u8 0, .int .u8 0, .int .u8 0, .int .u8 0, .int .u8 0] 84)) wr.heap.size .u8 84 (List.replicate 8 0) := by
        have h_ := blk_new wr (.cells (nums .u8 (List.replicate 8 0)).toArray 84)
        simpa [nums, Blk, List.replicate] using h_
      have HN := Aside0.mk hnew
      have hs1 := HO.out.lt
      have F1 := Aside0.mk (hnew.setRow (L k))
      have F2 := Aside0.mk ((HO.out.alloc (.cells #[.int .u8 0, .int .u8 0, .int .u8 0, .int .u8 0, .int .u8 0, .int .u8 0, .int .u8 0, .int .u8 0] 84)).setRow_far (g' := wr.heap.size) (by omega) (nums .u8 (L k)).toArray)
      have F3 := Aside0.mk ((HZ.out.alloc (.cells #[.int .u8 0, .int .u8 0, .int .u8 0, .int .u8 0, .int .u8 0, .int .u8 0, .int .u8 0, .int .u8 0] 84)).setRow_far (g' := wr.heap.size) (by omega) (nums .u8 (L k)).toArray)
      have F4 := Aside0.mk (below_setRow (g := wr.heap.size) (HW.out.alloc HW.out.size (.cells #[.int .u8 0, .int .u8 0, .int .u8 0, .int .u8 0, .int .u8 0, .int .u8 0, .int .u8 0, .int .u8 0] 84)) HW.out.size (nums .u8 (L k)).toArray)
      clear hnew HO HZ HW
      have hgS : wr.heap.size ≠ w.heap.size + 1 := by omega
      go_wp2_with (first | (with_reducible refine wpList_load_mid rfl 84 (.tmp 12) rfl g (k * 8) rfl (nums .u8 (L k)) _ HR.out Try.underlying84 rfl (by rw [info8, hl8.out]) ?_) | (with_reducible refine wpList_store_blk rfl 84 (.tmp 5) (.tmp 13) rfl wr.heap.size rfl info8 rfl HN.out (by simp) (HL.out k) ?_))
      have hl1 : Aside0 ((foldX L k).length = 8) := ⟨foldX_length L HL.out k⟩
      have hl2 := Aside0.mk (HL.out k)
      have hnx : Aside0 (xorL (foldX L k) (L k) = foldX L (k + 1)) := ⟨rfl⟩
      obtain ⟨W, hW⟩ : ∃ W, W = (wr.alloc (.cells #[.int .u8 0, .int .u8 0, .int .u8 0, .int .u8 0, .int .u8 0, .int .u8 0, .int .u8 0, .int .u8 0] 84)).setRow wr.heap.size (nums .u8 (L k)).toArray := ⟨_, rfl⟩
      rw [← hW] at F1 F2 F3 F4 ⊢
      clear hW HN HR
      obtain ⟨gb, hgb⟩ : ∃ gb, gb = wr.heap.size := ⟨_, rfl⟩
      rw [← hgb] at F1 hs1 hgS ⊢
      clear hgb
      obtain ⟨cur, hcur⟩ : ∃ cur, cur = foldX L k := ⟨_, rfl⟩
      rw [← hcur] at F2 hl1 hnx
      clear hcur
      obtain ⟨bl, hbl⟩ : ∃ bl, bl = L k := ⟨_, rfl⟩
      rw [← hbl] at F1 hl2 hnx ⊢
      clear hbl
      go_loopw [6, 14] (fun v6 v14 wi => ∃ i : Nat, i ≤ 8 ∧ v14 = .int .i64 i ∧ Aside0 (Blk wi (w.heap.size + 1) .u8 84 (xorTo cur bl i)) ∧ Aside0 (Blk wi w.heap.size .u8 84 (List.replicate 8 0)) ∧ Aside0 (Blk wi gb .u8 84 bl) ∧ Aside0 (Below w.heap.size w wi))
        (fun _ v14 _ => 8 - (intOf v14).toNat)
      case atStart => exact ⟨0, by omega, rfl, ⟨by rw [xorTo_zero]; exact F2.out⟩, F3, F1, F4⟩
      case round =>
        obtain ⟨i, hi, rfl, HO, HZ, HB, HW⟩ := hrel
        by_cases hli : i < 8
        · have c1 := HO.out.cell i (by rw [xorTo_length cur bl i hl1.out hl2.out hi]; exact hli)
          have c2 := HB.out.cell i (by rw [hl2.out]; exact hli)
          have c3 := HO.out.free i
          have hx := Aside0.mk (xorTo_step cur bl i hl1.out hl2.out hli)
          rw [xorTo_nth cur bl i hl1.out hl2.out hli] at c1
          go_wp2
          go_region
          go_wp2
          go_roundw
          case rel =>
            exact ⟨i + 1, by omega, by go_num, ⟨by rw [← hx.out]; exact HO.out.set i _⟩, ⟨HZ.out.far (p := ⟨w.heap.size + 1, i, none⟩) (by simp) _⟩, ⟨HB.out.far (p := ⟨w.heap.size + 1, i, none⟩) hgS _⟩, ⟨below_drew1 (HW.out.setCell (p := ⟨w.heap.size + 1, i, none⟩) (by simp) _)⟩⟩
          case measure => simp [intOf]; omega
        · obtain rfl : i = 8 := by omega
          go_wp2
          go_roundw
          case rel =>
            rw [xorTo_all cur bl hl1.out hl2.out, hnx.out] at HO
            exact ⟨k + 1, by omega, by go_num, HO, HZ, HW⟩
          case measure => simp [intOf]; omega
    · obtain rfl : k = n := by omega
      have HL8 := Aside0.mk (foldX_length L HL.out k)
      go_wp2_with (first | (with_reducible refine wpList_load_blk rfl 84 (.tmp 3) rfl (w.heap.size + 1) rfl Try.underlying84 info8 HO.out HL8.out ?_) | (with_reducible refine wpList_store_blk rfl 84 (.tmp 2) (.tmp 27) rfl w.heap.size rfl info8 rfl HZ.out (by simp) HL8.out ?_))
      refine bodyPost_ret (results_blk rfl _ _ w.heap.size Try.underlying84 info8 rfl (HZ.out.setRow _) HL8.out) rfl ⟨rfl, below_setRow HW.out (Nat.le_refl _) _⟩
end Go.Proofs.Ytiejallnkgllnaa
namespace Go.Proofs.Ytiejallnkgllnaa
open Go.RowKit Go.Proofs.YtiejallnkgllnaaW.PrintWords Go.Proofs.YtiejallnkgllnaaW.PrintLast Go.Proofs.YtiejallnkgllnaaW.PrintMore Go.Proofs.Ytiejallnkgllnaa.D
open Go.Proofs.Ytiejallnkgllnaa.B (xorL xorL_length)
set_option linter.unusedVariables false

theorem xor_byte (x y : Int) (hx : 0 ≤ x ∧ x ≤ 255) (hy : 0 ≤ y ∧ y ≤ 255) : 0 ≤ Go.bits .xor .u8 x y ∧ Go.bits .xor .u8 x y ≤ 255 := by
  obtain ⟨⟨n, rfl⟩, h1⟩ : (∃ n : Nat, x = n) ∧ x ≤ 255 := ⟨⟨x.toNat, by omega⟩, hx.2⟩
  obtain ⟨⟨m, rfl⟩, h2⟩ : (∃ n : Nat, y = n) ∧ y ≤ 255 := ⟨⟨y.toNat, by omega⟩, hy.2⟩
  have h := (List.all_eq_true.1 (show ((List.range 256).all fun i => (List.range 256).all fun j => decide (0 ≤ Go.bits .xor .u8 (i : Int) (j : Int) ∧ Go.bits .xor .u8 (i : Int) (j : Int) ≤ 255)) = true by decide +kernel)) n (List.mem_range.2 (by omega))
  exact of_decide_eq_true ((List.all_eq_true.1 h) m (List.mem_range.2 (by omega)))
theorem xor_zero (x : Int) (hx : 0 ≤ x ∧ x ≤ 255) : Go.bits .xor .u8 0 x = x := by
  obtain ⟨⟨n, rfl⟩, h1⟩ : (∃ n : Nat, x = n) ∧ x ≤ 255 := ⟨⟨x.toNat, by omega⟩, hx.2⟩
  exact of_decide_eq_true ((List.all_eq_true.1 (show ((List.range 256).all fun i => decide (Go.bits .xor .u8 0 (i : Int) = (i : Int))) = true by decide +kernel)) n (List.mem_range.2 (by omega)))
theorem xorL_bytes : ∀ (a b : List Int), Bytes a → Bytes b → Bytes (xorL a b)
  | [], _, _, _ => fun x hx => by simp [xorL] at hx
  | _ :: _, [], _, _ => fun x hx => by simp [xorL] at hx
  | x :: a, y :: b, ha, hb => fun z hz => by
    have hz' : z = Go.bits .xor .u8 x y ∨ z ∈ xorL a b := by simpa [xorL] using hz
    rcases hz' with rfl | h
    · exact xor_byte x y (ha x (List.mem_cons_self ..)) (hb y (List.mem_cons_self ..))
    · exact xorL_bytes a b (fun q hq => ha q (List.mem_cons_of_mem _ hq)) (fun q hq => hb q (List.mem_cons_of_mem _ hq)) z h
theorem xorL_zeros : ∀ (n : Nat) (b : List Int), b.length = n → Bytes b → xorL (List.replicate n 0) b = b
  | 0, [], _, _ => rfl
  | n + 1, x :: b, h, hb => by
    have e : xorL (List.replicate (n + 1) 0) (x :: b) = Go.bits .xor .u8 0 x :: xorL (List.replicate n 0) b := rfl
    rw [e, xor_zero x (hb x (List.mem_cons_self ..)), xorL_zeros n b (by simpa using h) (fun q hq => hb q (List.mem_cons_of_mem _ hq))]
theorem Blk.range {w : World} {g : Nat} {k : IntKind} {t : TypeId} {xs : List Int} (h : Blk w g k t xs) : w.rangeAt g 0 (nums k xs) := by
  intro j v hv
  have hj : j < xs.length := by
    rcases Nat.lt_or_ge j xs.length with h' | h'
    · exact h'
    · simp [nums, List.getElem?_eq_none h'] at hv
  rw [Nat.zero_add, h.cell j hj]
  simp [nums, hj] at hv
  subst hv
  rw [nth_at _ _ hj]
theorem xor8_two (a b : List Int) (ha : a.length = 8) (hab : Bytes a) (hb : b.length = 8) (g c : Nat) (t : TypeId) (w : World) (h : Blk w g .u8 t (a ++ b)) :
    Calls Try.prog 51 #[.slice (some ⟨g, 0, none⟩) 2 c] w fun e w' => e = .returned (.agg (nums .u8 (xorL a b)).toArray) ∧ Below w.heap.size w w' := by
  have hx : foldX (fun k => if k = 0 then a else b) 2 = xorL a b := by
    show xorL (xorL (List.replicate 8 0) a) b = xorL a b
    rw [xorL_zeros 8 a ha hab]
  rw [← hx]
  refine impl_xor8.calls (fun k => if k = 0 then a else b) 2 c g w (by omega) (fun k => by show (if k = 0 then a else b).length = 8; split <;> assumption) (fun k hk j v hv => ?_)
  have hr := h.range
  have hj : j < 8 := by
    have := (List.getElem?_eq_some_iff.1 hv).1
    rw [nums_length] at this
    split at this <;> omega
  have e : (nums .u8 (a ++ b))[8 * k + j]? = some v := by
    rw [← hv]
    have ea : nums .u8 (a ++ b) = nums .u8 a ++ nums .u8 b := by simp [nums]
    rw [ea]
    rcases (by omega : k = 0 ∨ k = 1) with rfl | rfl
    · rw [List.getElem?_append_left (by rw [nums_length]; omega), Nat.mul_zero, Nat.zero_add]
      rfl
    · rw [List.getElem?_append_right (by rw [nums_length]; omega), nums_length, ha]
      have : 8 * 1 + j - 8 = j := by omega
      rw [this]
      rfl
  have := hr (8 * k + j) v e
  rw [Nat.zero_add] at this
  exact this
end Go.Proofs.Ytiejallnkgllnaa
namespace Go.Proofs.Ytiejallnkgllnaa
open Go.RowKit Go.Proofs.YtiejallnkgllnaaW.PrintWords Go.Proofs.YtiejallnkgllnaaW.PrintLast Go.Proofs.YtiejallnkgllnaaW.PrintMore Go.Proofs.Ytiejallnkgllnaa.D
open Go.Proofs.Ytiejallnkgllnaa.B (xorL xorL_length)
set_option linter.unusedVariables false
def HEX : ByteArray := ⟨#[48, 49, 50, 51, 52, 53, 54, 55, 56, 57, 65, 66, 67, 68, 69, 70]⟩
theorem hex_all : ∀ n : Fin 16, bI (HEX.extract n.val (n.val + 1)) = [hexc (n.val : Int)] := by decide +kernel
theorem hex_one (n : Nat) (h : n < 16) : HexOf (HEX.extract n (n + 1)) [(n : Int)] := ⟨hex_all ⟨n, h⟩, fun d hd => by simp at hd; omega⟩
theorem hex_F : HexOf ⟨#[70]⟩ [15] := ⟨by decide, fun d hd => by simp at hd; omega⟩
theorem eight8 (l : List Int) (h : l.length = 8) : ∃ a b c d e f g i, l = [a, b, c, d, e, f, g, i] := by
  match l, h with
  | [a, b, c, d, e, f, g, i], _ => exact ⟨_, _, _, _, _, _, _, _, rfl⟩
theorem new8 (w : World) : Blk (w.alloc (.cells #[.int .u8 0, .int .u8 0, .int .u8 0, .int .u8 0, .int .u8 0, .int .u8 0, .int .u8 0, .int .u8 0] 84)) w.heap.size .u8 84 (List.replicate 8 0) := by
  have h_ := blk_new w (.cells (nums .u8 (List.replicate 8 0)).toArray 84)
  simpa [nums, Blk, List.replicate] using h_
theorem infoPB : (Try.prog.info? 38).map (·.size) = some 3 := by kernel_rfl
/-- A PIN block's bytes. -/
def pinBlk (ds : List Int) (pan : ByteArray) : List Int := xorL (outN (numH ds) 8) (outN (numH (accD pan)) 8)
theorem outN_bytes (v : Int) : Bytes (outN v 8) := fun x hx => by
  unfold outN at hx
  rw [Nat.sub_self, List.replicate_zero, List.append_nil] at hx
  obtain ⟨j, _, rfl⟩ := List.mem_map.1 hx
  exact ⟨Int.emod_nonneg _ (by decide), Int.le_of_lt_add_one (Int.emod_lt_of_pos _ (by decide))⟩
set_option maxHeartbeats 4000000 in
set_option maxRecDepth 100000 in
theorem impl_MakePin.f0 (pin pan : ByteArray) (A3 : Option Addr) (n3 c3 : Nat) (w : World) (h1 : digOk pin 4 12 = true) (h2 : digOk pan 13 19 = true) (p4 : 4 ≤ pin.size) (p12 : pin.size ≤ 12) (q13 : 13 ≤ pan.size) (q19 : pan.size ≤ 19) (hpd : allDg pin = true) (hqd : allDg pan = true) :
    Calls Try.prog 20 #[.int .i64 0, .string pin, .string pan, .slice A3 n3 c3] w fun e w' => ∃ v : Value, e = .returned (.agg #[.int .i64 0, v, .int .i64 0]) ∧ Kd.R (Kd.int .u8) 84 w' w.heap.size (fun _ => True) v (pinBlk (0 :: (pin.size : Int) :: dgs pin ++ List.replicate (14 - pin.size) 15) pan) ∧ Below w.heap.size w w' := by
  have K1 : Aside0 (∀ w, Calls Try.prog 49 #[.string pin, .int .i64 4, .int .i64 12] w fun e w' => e = .returned (.bool true) ∧ Below w.heap.size w w') := ⟨fun w => by rw [← h1]; exact impl_digits.calls pin 4 12 w (by omega)⟩
  have K2 : Aside0 (∀ w, Calls Try.prog 49 #[.string pan, .int .i64 13, .int .i64 19] w fun e w' => e = .returned (.bool true) ∧ Below w.heap.size w w') := ⟨fun w => by rw [← h2]; exact impl_digits.calls pan 13 19 w (by omega)⟩
  have HP := Aside0.mk hpd
  have HQ := Aside0.mk hqd
  clear h1 h2 hpd hqd
  obtain ⟨DS, hDS⟩ : ∃ DS, DS = 0 :: (pin.size : Int) :: dgs pin ++ List.replicate (14 - pin.size) 15 := ⟨_, rfl⟩
  rw [← hDS]
  obtain ⟨cs, hcs⟩ : ∃ cs, cs = pinBlk DS pan := ⟨_, rfl⟩
  rw [← hcs]
  have HDS := Aside0.mk hDS
  have HCS := Aside0.mk hcs
  clear hDS hcs
  go_enter Try.func20, Try.ntmps20
  go_wp2_with fail
  with_reducible refine (K1.out _).mono ?_
  rintro e w1 ⟨rfl, hb1⟩
  have B1 := Aside0.mk hb1
  clear hb1
  go_wp2_with fail
  with_reducible refine (K2.out _).mono ?_
  rintro e w2 ⟨rfl, hb2⟩
  have BK : Aside0 (w2.heap[w.heap.size]? = some (.cells #[.int .i64 0, .slice none 0 0, .int .i64 0] 38)) := ⟨blk_below (blk_below (blk_new w _) B1.out) hb2⟩
  have HB : Aside0 (Below w.heap.size w w2) := ⟨below_step (below_step ((Below.refl _ _).alloc (Nat.le_refl _) _) B1.out) hb2⟩
  clear hb2 B1
  go_wp2_with fail
  go_quiet (fail)
  go_wp2_with fail
  have HX := Aside0.mk ((HexOf.app (hex_one 0 (by omega)) (hex_one pin.size (by omega))).app (HexOf.dig HP.out))
  generalize hS0 : (⟨#[48, 49, 50, 51, 52, 53, 54, 55, 56, 57, 65, 66, 67, 68, 69, 70]⟩ : ByteArray).extract 0 1 ++ (⟨#[48, 49, 50, 51, 52, 53, 54, 55, 56, 57, 65, 66, 67, 68, 69, 70]⟩ : ByteArray).extract pin.size (pin.size + 1) ++ pin = S0
  have HX0 : Aside0 (HexOf S0 (0 :: (pin.size : Int) :: dgs pin)) := ⟨by rw [← hS0]; exact HX.out⟩
  clear hS0 HX
  have BK := Aside0.mk (blk_drewN BK.out nq)
  have HB := Aside0.mk (pw_below_drewN HB.out nq)
  generalize w2.drewN nq = W at BK HB ⊢
  have hz0 : S0.size = pin.size + 2 := by rw [HX0.out.size]; simp [dgs_length]
  go_loop [9, 10] (fun v9 v10 => ∃ (S : ByteArray) (j : Nat), v9 = .string S ∧ v10 = .int .i64 0 ∧ S.size = pin.size + 2 + j ∧ j + pin.size ≤ 14 ∧ Aside0 (HexOf S (0 :: (pin.size : Int) :: dgs pin ++ List.replicate j 15)))
    (fun v9 _ => match v9 with | .string S => 16 - S.size | _ => 0)
  case atStart => exact ⟨S0, 0, rfl, rfl, by omega, by omega, ⟨by simpa using HX0.out⟩⟩
  case round =>
    obtain ⟨S, j, rfl, rfl, hsz, hj, HS⟩ := hrel
    by_cases hlt : j + pin.size < 14
    · have c1 : (S.size : Int) < 16 := by omega
      go_wp2_with fail
      go_round
      case rel => exact ⟨_, j + 1, rfl, rfl, by rw [ByteArray.size_append, show ByteArray.size ⟨#[70]⟩ = 1 from rfl]; omega, by omega, ⟨by rw [List.replicate_succ', ← List.append_assoc]; exact HS.out.app hex_F⟩⟩
      case measure => simp only [ByteArray.size_append, show ByteArray.size ⟨#[70]⟩ = 1 from rfl]; omega
    · have c1 : ¬ (S.size : Int) < 16 := by omega
      obtain rfl : j = 14 - pin.size := by omega
      rw [← HDS.out] at HS
      have hl16 : DS.length ≤ 16 := by rw [← HS.out.size]; omega
      clear HX0 hz0
      obtain ⟨a0, a1, a2, a3, a4, a5, a6, a7, ha⟩ := eight8 (outN (numH DS) 8) (outN_length _ 8 (by omega))
      obtain ⟨b0, b1, b2, b3, b4, b5, b6, b7, hb⟩ := eight8 (outN (numH (accD pan)) 8) (outN_length _ 8 (by omega))
      have K3 : Aside0 (∀ w, Calls Try.prog 55 #[.string S] w fun e w' => e = .returned (.agg #[.int .u8 a0, .int .u8 a1, .int .u8 a2, .int .u8 a3, .int .u8 a4, .int .u8 a5, .int .u8 a6, .int .u8 a7]) ∧ Below w.heap.size w w') := ⟨fun w => by have := impl_packed.at S DS w HS.out hl16; rw [ha] at this; exact this⟩
      have K4 : Aside0 (∀ w, Calls Try.prog 52 #[.string pan] w fun e w' => e = .returned (.agg #[.int .u8 b0, .int .u8 b1, .int .u8 b2, .int .u8 b3, .int .u8 b4, .int .u8 b5, .int .u8 b6, .int .u8 b7]) ∧ Below w.heap.size w w') := ⟨fun w => by have := impl_account.at pan w HQ.out q13 q19; rw [hb] at this; exact this⟩
      have KX := Aside0.mk (fun (g c : Nat) (w1 : World) (h : Blk w1 g .u8 84 ([a0, a1, a2, a3, a4, a5, a6, a7] ++ [b0, b1, b2, b3, b4, b5, b6, b7])) => xor8_two [a0, a1, a2, a3, a4, a5, a6, a7] [b0, b1, b2, b3, b4, b5, b6, b7] rfl (ha ▸ outN_bytes _) rfl g c 84 w1 h)
      have HC : Aside0 (xorL [a0, a1, a2, a3, a4, a5, a6, a7] [b0, b1, b2, b3, b4, b5, b6, b7] = pinBlk DS pan) := ⟨by unfold pinBlk; rw [ha, hb]⟩
      have HCL : Aside0 (cs.length = 8) := ⟨by rw [HCS.out, ← HC.out, xorL_length _ _ (by simp)]; rfl⟩
      rw [HC.out, ← HCS.out] at KX
      clear ha hb HC HS hl16 hsz hj hlt
      go_upto_region 14 with (first
        | (go_at_call 55; go_must (refine (K3.out _).mono ?_; rintro e w3 ⟨rfl, hb⟩; have BK3 := Aside0.mk (blk_below BK.out hb); have HB3 := Aside0.mk (below_step HB.out hb); clear hb))
        | (go_at_call 52; go_must (refine (K4.out _).mono ?_; rintro e w4 ⟨rfl, hb⟩; have BK4 := Aside0.mk (blk_below BK3.out hb); have HB4 := Aside0.mk (below_step HB3.out hb); clear hb))
        | (go_at_call 51; go_must (refine (KX.out _ _ _ ?bb).mono ?_; (case bb => exact (show Blk _ _ _ _ _ from blk_new _ (.cells (nums .u8 [a0, a1, a2, a3, a4, a5, a6, a7, b0, b1, b2, b3, b4, b5, b6, b7]).toArray 84))); rintro e w5 ⟨rfl, hb⟩; have BK5 := Aside0.mk (blk_below (blk_alloc BK4.out _) hb); have HB5 := Aside0.mk (below_step (HB4.out.alloc HB4.out.size _) hb); clear hb; have HN := Aside0.mk (new8 w5); have BK6 := Aside0.mk (setRow_other (w5.alloc (.cells #[.int .u8 0, .int .u8 0, .int .u8 0, .int .u8 0, .int .u8 0, .int .u8 0, .int .u8 0, .int .u8 0] 84)) w5.heap.size w.heap.size (nums .u8 cs).toArray (Nat.ne_of_lt (blk_lt BK5.out)) |>.trans (blk_alloc BK5.out _)); have HB6 := Aside0.mk (below_setRow (g := w5.heap.size) (HB5.out.alloc HB5.out.size (.cells #[.int .u8 0, .int .u8 0, .int .u8 0, .int .u8 0, .int .u8 0, .int .u8 0, .int .u8 0, .int .u8 0] 84)) HB5.out.size (nums .u8 cs).toArray); have HR6 := Aside0.mk (HN.out.setRow cs); have hne5 := Aside0.mk (Nat.ne_of_gt (blk_lt BK5.out)); have hge5 := Aside0.mk HB5.out.size))
        | (with_reducible refine wpList_store_blk rfl 84 (.tmp 12) (.tmp 75) rfl w5.heap.size rfl info8 rfl HN.out (by simp) HCL.out ?_))
      generalize (w5.alloc (.cells #[.int .u8 0, .int .u8 0, .int .u8 0, .int .u8 0, .int .u8 0, .int .u8 0, .int .u8 0, .int .u8 0] 84)).setRow w5.heap.size (nums .u8 cs).toArray = W6 at BK6 HB6 HR6 ⊢
      have z0 : W6.cell? ⟨w.heap.size, 0, none⟩ = some (.int .i64 0) := (blk_cell BK6.out 0).trans rfl
      have z1 : W6.cell? ⟨w.heap.size, 1, none⟩ = some (.slice none 0 0) := (blk_cell BK6.out 1).trans rfl
      have z2 : W6.cell? ⟨w.heap.size, 2, none⟩ = some (.int .i64 0) := (blk_cell BK6.out 2).trans rfl
      have f0 := blk_frozen BK6.out 0
      have f1 := blk_frozen BK6.out 1
      have f2 := blk_frozen BK6.out 2
      go_simp
      go_wp2
      refine bodyPost_ret (results_cell_row rfl _ _ w.heap.size 38 _ (0, 0) _ rfl (blk_set (blk_set (blk_set BK6.out _ _) _ _) _ _) Try.underlying38 rfl infoPB) rfl ⟨_, rfl, ((((HR6.out.far (p := ⟨w.heap.size, 0, none⟩) hne5.out _).far (p := ⟨w.heap.size, 1, none⟩) hne5.out _).far (p := ⟨w.heap.size, 2, none⟩) hne5.out _).R hge5.out HCL.out (by omega)), ((HB6.out.setCell (p := ⟨w.heap.size, 0, none⟩) (Nat.le_refl _) _).setCell (p := ⟨w.heap.size, 1, none⟩) (Nat.le_refl _) _).setCell (p := ⟨w.heap.size, 2, none⟩) (Nat.le_refl _) _⟩
end Go.Proofs.Ytiejallnkgllnaa
namespace Go.Proofs.Ytiejallnkgllnaa
open Go.RowKit Go.Proofs.YtiejallnkgllnaaW.PrintWords Go.Proofs.YtiejallnkgllnaaW.PrintLast Go.Proofs.YtiejallnkgllnaaW.PrintMore Go.Proofs.Ytiejallnkgllnaa.D
open Go.Proofs.Ytiejallnkgllnaa.B (xorL xorL_length)
set_option linter.unusedVariables false
/-- The fill digits out of draws. -/
def fillL (dr : List Int) (n : Nat) : List Int := (dr.take n).map fun x => 10 + x % 6
theorem fillL_snoc (dr : List Int) (n : Nat) (h : n < dr.length) : fillL dr (n + 1) = fillL dr n ++ [10 + nth dr n % 6] := by
  unfold fillL
  rw [take_nth dr n h, List.map_append]
  rfl
set_option maxHeartbeats 4000000 in
set_option maxRecDepth 100000 in
theorem impl_MakePin.f3 (pin pan : ByteArray) (A3 : Option Addr) (dr : List Int) (c3 : Nat) (w : World) (hdr : Kd.C (Kd.int .u8) w A3 dr.length dr) (hdb : Bytes dr) (hdl : 14 - pin.size ≤ dr.length) (hdm : dr.length ≤ 9223372036854775807) (h1 : digOk pin 4 12 = true) (h2 : digOk pan 13 19 = true) (p4 : 4 ≤ pin.size) (p12 : pin.size ≤ 12) (q13 : 13 ≤ pan.size) (q19 : pan.size ≤ 19) (hpd : allDg pin = true) (hqd : allDg pan = true) :
    Calls Try.prog 20 #[.int .i64 3, .string pin, .string pan, .slice A3 dr.length c3] w fun e w' => ∃ v : Value, e = .returned (.agg #[.int .i64 0, v, .int .i64 ((14 - pin.size : Nat) : Int)]) ∧ Kd.R (Kd.int .u8) 84 w' w.heap.size (fun _ => True) v (pinBlk (3 :: (pin.size : Int) :: dgs pin ++ fillL dr (14 - pin.size)) pan) ∧ Below w.heap.size w w' := by
  have K1 : Aside0 (∀ w, Calls Try.prog 49 #[.string pin, .int .i64 4, .int .i64 12] w fun e w' => e = .returned (.bool true) ∧ Below w.heap.size w w') := ⟨fun w => by rw [← h1]; exact impl_digits.calls pin 4 12 w (by omega)⟩
  have K2 : Aside0 (∀ w, Calls Try.prog 49 #[.string pan, .int .i64 13, .int .i64 19] w fun e w' => e = .returned (.bool true) ∧ Below w.heap.size w w') := ⟨fun w => by rw [← h2]; exact impl_digits.calls pan 13 19 w (by omega)⟩
  have HP := Aside0.mk hpd
  have HQ := Aside0.mk hqd
  have HDR := Aside0.mk hdr
  have HDB := Aside0.mk hdb
  clear h1 h2 hpd hqd hdr hdb
  obtain ⟨DS, hDS⟩ : ∃ DS, DS = 3 :: (pin.size : Int) :: dgs pin ++ fillL dr (14 - pin.size) := ⟨_, rfl⟩
  rw [← hDS]
  obtain ⟨cs, hcs⟩ : ∃ cs, cs = pinBlk DS pan := ⟨_, rfl⟩
  rw [← hcs]
  have HDS := Aside0.mk hDS
  have HCS := Aside0.mk hcs
  clear hDS hcs
  go_enter Try.func20, Try.ntmps20
  go_wp2_with fail
  with_reducible refine (K1.out _).mono ?_
  rintro e w1 ⟨rfl, hb1⟩
  have B1 := Aside0.mk hb1
  clear hb1
  go_wp2_with fail
  with_reducible refine (K2.out _).mono ?_
  rintro e w2 ⟨rfl, hb2⟩
  have BK : Aside0 (w2.heap[w.heap.size]? = some (.cells #[.int .i64 0, .slice none 0 0, .int .i64 0] 38)) := ⟨blk_below (blk_below (blk_new w _) B1.out) hb2⟩
  have HB : Aside0 (Below w.heap.size w w2) := ⟨below_step (below_step ((Below.refl _ _).alloc (Nat.le_refl _) _) B1.out) hb2⟩
  clear hb2 B1
  go_wp2_with fail
  go_quiet (fail)
  go_wp2_with fail
  have HX := Aside0.mk ((HexOf.app (hex_one 3 (by omega)) (hex_one pin.size (by omega))).app (HexOf.dig HP.out))
  generalize hS0 : (⟨#[48, 49, 50, 51, 52, 53, 54, 55, 56, 57, 65, 66, 67, 68, 69, 70]⟩ : ByteArray).extract 3 4 ++ (⟨#[48, 49, 50, 51, 52, 53, 54, 55, 56, 57, 65, 66, 67, 68, 69, 70]⟩ : ByteArray).extract pin.size (pin.size + 1) ++ pin = S0
  have HX0 : Aside0 (HexOf S0 (3 :: (pin.size : Int) :: dgs pin)) := ⟨by rw [← hS0]; exact HX.out⟩
  clear hS0 HX
  have BK := Aside0.mk (blk_drewN BK.out nq)
  have HB := Aside0.mk (pw_below_drewN HB.out nq)
  generalize w2.drewN nq = W at BK HB ⊢
  have hz0 : S0.size = pin.size + 2 := by rw [HX0.out.size]; simp [dgs_length]
  go_loop [9, 10] (fun v9 v10 => ∃ (S : ByteArray) (j : Nat), v9 = .string S ∧ v10 = .int .i64 j ∧ S.size = pin.size + 2 + j ∧ j + pin.size ≤ 14 ∧ Aside0 (HexOf S (3 :: (pin.size : Int) :: dgs pin ++ fillL dr j)))
    (fun v9 _ => match v9 with | .string S => 16 - S.size | _ => 0)
  case atStart => exact ⟨S0, 0, rfl, rfl, by omega, by omega, ⟨by simpa [fillL] using HX0.out⟩⟩
  case round =>
    obtain ⟨S, j, rfl, rfl, hsz, hj, HS⟩ := hrel
    by_cases hlt : j + pin.size < 14
    · have c1 : (S.size : Int) < 16 := by omega
      have hjd : j < dr.length := by omega
      have c2 : ((j : Int) == (dr.length : Int)) = false := by rw [beq_eq_false_iff_ne]; omega
      obtain ⟨ad, hA, hcell0⟩ := Kd.at_int HDR.out (j : Int) (by omega) (by omega)
      subst hA
      have hcell := (HB.out.cell (World.block_lt_of_cell? w _ hcell0)).trans hcell0
      clear hcell0
      rw [Int.toNat_natCast, rd_nth] at hcell
      obtain ⟨x0, x1⟩ := HDB.out.nth j
      have HF := Aside0.mk (fillL_snoc dr j hjd)
      obtain ⟨x, hx⟩ : ∃ x, x = nth dr j := ⟨_, rfl⟩
      rw [← hx] at hcell x0 x1 HF
      clear hx
      obtain ⟨q, hq, hq6⟩ : ∃ q : Nat, x % 6 = (q : Int) ∧ q < 6 := ⟨(x % 6).toNat, by omega, by omega⟩
      rw [hq] at HF
      go_wp2_with fail
      have hs1 : ((⟨#[48, 49, 50, 51, 52, 53, 54, 55, 56, 57, 65, 66, 67, 68, 69, 70]⟩ : ByteArray).extract (10 + q) (10 + q + 1)).size = 1 := (hex_one (10 + q) (by omega)).size
      go_round
      case rel => exact ⟨_, j + 1, rfl, by go_num, by rw [ByteArray.size_append, hs1]; omega, by omega, ⟨by rw [HF.out, ← List.append_assoc]; exact HS.out.app (hex_one (10 + q) (by omega))⟩⟩
      case measure => simp only [ByteArray.size_append, hs1]; omega
    · have c1 : ¬ (S.size : Int) < 16 := by omega
      obtain rfl : j = 14 - pin.size := by omega
      rw [← HDS.out] at HS
      have hl16 : DS.length ≤ 16 := by rw [← HS.out.size]; omega
      clear HX0 hz0
      obtain ⟨a0, a1, a2, a3, a4, a5, a6, a7, ha⟩ := eight8 (outN (numH DS) 8) (outN_length _ 8 (by omega))
      obtain ⟨b0, b1, b2, b3, b4, b5, b6, b7, hb⟩ := eight8 (outN (numH (accD pan)) 8) (outN_length _ 8 (by omega))
      have K3 : Aside0 (∀ w, Calls Try.prog 55 #[.string S] w fun e w' => e = .returned (.agg #[.int .u8 a0, .int .u8 a1, .int .u8 a2, .int .u8 a3, .int .u8 a4, .int .u8 a5, .int .u8 a6, .int .u8 a7]) ∧ Below w.heap.size w w') := ⟨fun w => by have := impl_packed.at S DS w HS.out hl16; rw [ha] at this; exact this⟩
      have K4 : Aside0 (∀ w, Calls Try.prog 52 #[.string pan] w fun e w' => e = .returned (.agg #[.int .u8 b0, .int .u8 b1, .int .u8 b2, .int .u8 b3, .int .u8 b4, .int .u8 b5, .int .u8 b6, .int .u8 b7]) ∧ Below w.heap.size w w') := ⟨fun w => by have := impl_account.at pan w HQ.out q13 q19; rw [hb] at this; exact this⟩
      have KX := Aside0.mk (fun (g c : Nat) (w1 : World) (h : Blk w1 g .u8 84 ([a0, a1, a2, a3, a4, a5, a6, a7] ++ [b0, b1, b2, b3, b4, b5, b6, b7])) => xor8_two [a0, a1, a2, a3, a4, a5, a6, a7] [b0, b1, b2, b3, b4, b5, b6, b7] rfl (ha ▸ outN_bytes _) rfl g c 84 w1 h)
      have HC : Aside0 (xorL [a0, a1, a2, a3, a4, a5, a6, a7] [b0, b1, b2, b3, b4, b5, b6, b7] = pinBlk DS pan) := ⟨by unfold pinBlk; rw [ha, hb]⟩
      have HCL : Aside0 (cs.length = 8) := ⟨by rw [HCS.out, ← HC.out, xorL_length _ _ (by simp)]; rfl⟩
      rw [HC.out, ← HCS.out] at KX
      clear ha hb HC HS hl16 hsz hj hlt
      go_upto_region 14 with (first
        | (go_at_call 55; go_must (refine (K3.out _).mono ?_; rintro e w3 ⟨rfl, hb⟩; have BK3 := Aside0.mk (blk_below BK.out hb); have HB3 := Aside0.mk (below_step HB.out hb); clear hb))
        | (go_at_call 52; go_must (refine (K4.out _).mono ?_; rintro e w4 ⟨rfl, hb⟩; have BK4 := Aside0.mk (blk_below BK3.out hb); have HB4 := Aside0.mk (below_step HB3.out hb); clear hb))
        | (go_at_call 51; go_must (refine (KX.out _ _ _ ?bb).mono ?_; (case bb => exact (show Blk _ _ _ _ _ from blk_new _ (.cells (nums .u8 [a0, a1, a2, a3, a4, a5, a6, a7, b0, b1, b2, b3, b4, b5, b6, b7]).toArray 84))); rintro e w5 ⟨rfl, hb⟩; have BK5 := Aside0.mk (blk_below (blk_alloc BK4.out _) hb); have HB5 := Aside0.mk (below_step (HB4.out.alloc HB4.out.size _) hb); clear hb; have HN := Aside0.mk (new8 w5); have BK6 := Aside0.mk (setRow_other (w5.alloc (.cells #[.int .u8 0, .int .u8 0, .int .u8 0, .int .u8 0, .int .u8 0, .int .u8 0, .int .u8 0, .int .u8 0] 84)) w5.heap.size w.heap.size (nums .u8 cs).toArray (Nat.ne_of_lt (blk_lt BK5.out)) |>.trans (blk_alloc BK5.out _)); have HB6 := Aside0.mk (below_setRow (g := w5.heap.size) (HB5.out.alloc HB5.out.size (.cells #[.int .u8 0, .int .u8 0, .int .u8 0, .int .u8 0, .int .u8 0, .int .u8 0, .int .u8 0, .int .u8 0] 84)) HB5.out.size (nums .u8 cs).toArray); have HR6 := Aside0.mk (HN.out.setRow cs); have hne5 := Aside0.mk (Nat.ne_of_gt (blk_lt BK5.out)); have hge5 := Aside0.mk HB5.out.size))
        | (with_reducible refine wpList_store_blk rfl 84 (.tmp 12) (.tmp 75) rfl w5.heap.size rfl info8 rfl HN.out (by simp) HCL.out ?_))
      generalize (w5.alloc (.cells #[.int .u8 0, .int .u8 0, .int .u8 0, .int .u8 0, .int .u8 0, .int .u8 0, .int .u8 0, .int .u8 0] 84)).setRow w5.heap.size (nums .u8 cs).toArray = W6 at BK6 HB6 HR6 ⊢
      have z0 : W6.cell? ⟨w.heap.size, 0, none⟩ = some (.int .i64 0) := (blk_cell BK6.out 0).trans rfl
      have z1 : W6.cell? ⟨w.heap.size, 1, none⟩ = some (.slice none 0 0) := (blk_cell BK6.out 1).trans rfl
      have z2 : W6.cell? ⟨w.heap.size, 2, none⟩ = some (.int .i64 0) := (blk_cell BK6.out 2).trans rfl
      have f0 := blk_frozen BK6.out 0
      have f1 := blk_frozen BK6.out 1
      have f2 := blk_frozen BK6.out 2
      go_simp
      go_wp2
      refine bodyPost_ret (results_cell_row rfl _ _ w.heap.size 38 _ (0, 0) _ rfl (blk_set (blk_set (blk_set BK6.out _ _) _ _) _ _) Try.underlying38 rfl infoPB) rfl ⟨_, rfl, ((((HR6.out.far (p := ⟨w.heap.size, 0, none⟩) hne5.out _).far (p := ⟨w.heap.size, 1, none⟩) hne5.out _).far (p := ⟨w.heap.size, 2, none⟩) hne5.out _).R hge5.out HCL.out (by omega)), ((HB6.out.setCell (p := ⟨w.heap.size, 0, none⟩) (Nat.le_refl _) _).setCell (p := ⟨w.heap.size, 1, none⟩) (Nat.le_refl _) _).setCell (p := ⟨w.heap.size, 2, none⟩) (Nat.le_refl _) _⟩
set_option maxHeartbeats 4000000 in
set_option maxRecDepth 100000 in
theorem impl_MakePin.f3s (pin pan : ByteArray) (A3 : Option Addr) (dr : List Int) (c3 : Nat) (w : World) (hdr : Kd.C (Kd.int .u8) w A3 dr.length dr) (hdb : Bytes dr) (hdl : dr.length < 14 - pin.size) (h1 : digOk pin 4 12 = true) (h2 : digOk pan 13 19 = true) (p4 : 4 ≤ pin.size) (p12 : pin.size ≤ 12) (q19 : pan.size ≤ 19) (hpd : allDg pin = true) :
    Calls Try.prog 20 #[.int .i64 3, .string pin, .string pan, .slice A3 dr.length c3] w fun e w' => e = .returned (.agg #[.int .i64 2, .slice none 0 0, .int .i64 0]) ∧ Below w.heap.size w w' := by
  have K1 : Aside0 (∀ w, Calls Try.prog 49 #[.string pin, .int .i64 4, .int .i64 12] w fun e w' => e = .returned (.bool true) ∧ Below w.heap.size w w') := ⟨fun w => by rw [← h1]; exact impl_digits.calls pin 4 12 w (by omega)⟩
  have K2 : Aside0 (∀ w, Calls Try.prog 49 #[.string pan, .int .i64 13, .int .i64 19] w fun e w' => e = .returned (.bool true) ∧ Below w.heap.size w w') := ⟨fun w => by rw [← h2]; exact impl_digits.calls pan 13 19 w (by omega)⟩
  have HP := Aside0.mk hpd
  have HDR := Aside0.mk hdr
  have HDB := Aside0.mk hdb
  clear h1 h2 hpd hdr hdb
  go_enter Try.func20, Try.ntmps20
  go_wp2_with fail
  with_reducible refine (K1.out _).mono ?_
  rintro e w1 ⟨rfl, hb1⟩
  have B1 := Aside0.mk hb1
  clear hb1
  go_wp2_with fail
  with_reducible refine (K2.out _).mono ?_
  rintro e w2 ⟨rfl, hb2⟩
  have BK : Aside0 (w2.heap[w.heap.size]? = some (.cells #[.int .i64 0, .slice none 0 0, .int .i64 0] 38)) := ⟨blk_below (blk_below (blk_new w _) B1.out) hb2⟩
  have HB : Aside0 (Below w.heap.size w w2) := ⟨below_step (below_step ((Below.refl _ _).alloc (Nat.le_refl _) _) B1.out) hb2⟩
  clear hb2 B1
  go_wp2_with fail
  go_quiet (fail)
  go_wp2_with fail
  have HX := Aside0.mk ((HexOf.app (hex_one 3 (by omega)) (hex_one pin.size (by omega))).app (HexOf.dig HP.out))
  generalize hS0 : (⟨#[48, 49, 50, 51, 52, 53, 54, 55, 56, 57, 65, 66, 67, 68, 69, 70]⟩ : ByteArray).extract 3 4 ++ (⟨#[48, 49, 50, 51, 52, 53, 54, 55, 56, 57, 65, 66, 67, 68, 69, 70]⟩ : ByteArray).extract pin.size (pin.size + 1) ++ pin = S0
  have HX0 : Aside0 (HexOf S0 (3 :: (pin.size : Int) :: dgs pin)) := ⟨by rw [← hS0]; exact HX.out⟩
  clear hS0 HX
  have BK := Aside0.mk (blk_drewN BK.out nq)
  have HB := Aside0.mk (pw_below_drewN HB.out nq)
  generalize w2.drewN nq = W at BK HB ⊢
  have hz0 : S0.size = pin.size + 2 := by rw [HX0.out.size]; simp [dgs_length]
  go_loop [9, 10] (fun v9 v10 => ∃ (S : ByteArray) (j : Nat), v9 = .string S ∧ v10 = .int .i64 j ∧ S.size = pin.size + 2 + j ∧ j ≤ dr.length ∧ Aside0 (HexOf S (3 :: (pin.size : Int) :: dgs pin ++ fillL dr j)))
    (fun v9 _ => match v9 with | .string S => 16 - S.size | _ => 0)
  case atStart => exact ⟨S0, 0, rfl, rfl, by omega, by omega, ⟨by simpa [fillL] using HX0.out⟩⟩
  case round =>
    obtain ⟨S, j, rfl, rfl, hsz, hj, HS⟩ := hrel
    have c1 : (S.size : Int) < 16 := by omega
    by_cases hjd : j < dr.length
    · have c2 : ((j : Int) == (dr.length : Int)) = false := by rw [beq_eq_false_iff_ne]; omega
      obtain ⟨ad, hA, hcell0⟩ := Kd.at_int HDR.out (j : Int) (by omega) (by omega)
      subst hA
      have hcell := (HB.out.cell (World.block_lt_of_cell? w _ hcell0)).trans hcell0
      clear hcell0
      rw [Int.toNat_natCast, rd_nth] at hcell
      obtain ⟨x0, x1⟩ := HDB.out.nth j
      have HF := Aside0.mk (fillL_snoc dr j hjd)
      obtain ⟨x, hx⟩ : ∃ x, x = nth dr j := ⟨_, rfl⟩
      rw [← hx] at hcell x0 x1 HF
      clear hx
      obtain ⟨q, hq, hq6⟩ : ∃ q : Nat, x % 6 = (q : Int) ∧ q < 6 := ⟨(x % 6).toNat, by omega, by omega⟩
      rw [hq] at HF
      go_wp2_with fail
      have hs1 : ((⟨#[48, 49, 50, 51, 52, 53, 54, 55, 56, 57, 65, 66, 67, 68, 69, 70]⟩ : ByteArray).extract (10 + q) (10 + q + 1)).size = 1 := (hex_one (10 + q) (by omega)).size
      go_round
      case rel => exact ⟨_, j + 1, rfl, by go_num, by rw [ByteArray.size_append, hs1]; omega, by omega, ⟨by rw [HF.out, ← List.append_assoc]; exact HS.out.app (hex_one (10 + q) (by omega))⟩⟩
      case measure => simp only [ByteArray.size_append, hs1]; omega
    · obtain rfl : j = dr.length := by omega
      have c2 : ((dr.length : Int) == (dr.length : Int)) = true := by rw [beq_iff_eq]
      have z0 : W.cell? ⟨w.heap.size, 0, none⟩ = some (.int .i64 0) := (blk_cell BK.out 0).trans rfl
      have z1 : W.cell? ⟨w.heap.size, 1, none⟩ = some (.slice none 0 0) := (blk_cell BK.out 1).trans rfl
      have z2 : W.cell? ⟨w.heap.size, 2, none⟩ = some (.int .i64 0) := (blk_cell BK.out 2).trans rfl
      have f0 := blk_frozen BK.out 0
      have f1 := blk_frozen BK.out 1
      have f2 := blk_frozen BK.out 2
      clear HS HX0
      go_wp2
      refine bodyPost_ret (results_cell_row rfl _ _ w.heap.size 38 _ (0, 0) _ rfl (blk_set (blk_set (blk_set BK.out _ _) _ _) _ _) Try.underlying38 rfl infoPB) rfl ⟨rfl, ((HB.out.setCell (p := ⟨w.heap.size, 0, none⟩) (Nat.le_refl _) _).setCell (p := ⟨w.heap.size, 1, none⟩) (Nat.le_refl _) _).setCell (p := ⟨w.heap.size, 2, none⟩) (Nat.le_refl _) _⟩

set_option maxHeartbeats 4000000 in
set_option maxRecDepth 100000 in
theorem impl_MakePin.bad0 (f : Int) (pin pan : ByteArray) (A3 : Option Addr) (n3 c3 : Nat) (w : World) (h0 : f ≠ 0) (h3 : f ≠ 3) :
    Calls Try.prog 20 #[.int .i64 f, .string pin, .string pan, .slice A3 n3 c3] w fun e w' => e = .returned (.agg #[.int .i64 1, .slice none 0 0, .int .i64 0]) ∧ Below w.heap.size w w' := by
  have c0 : (f != 0) = true := by rw [bne_iff_ne]; exact h0
  have c3 : (f != 3) = true := by rw [bne_iff_ne]; exact h3
  clear h0 h3
  go_enter Try.func20, Try.ntmps20
  go_wp2_with fail
  refine bodyPost_ret (results_cell_row rfl _ _ w.heap.size 38 _ (0, 0) _ rfl (blk_new w _) Try.underlying38 rfl infoPB) rfl ⟨rfl, (Below.refl _ _).alloc (Nat.le_refl _) _⟩
set_option maxHeartbeats 4000000 in
set_option maxRecDepth 100000 in
theorem impl_MakePin.bad1 (f : Int) (hf : f = 0 ∨ f = 3) (pin pan : ByteArray) (A3 : Option Addr) (n3 c3 : Nat) (w : World) (hp : pin.size ≤ 1000000000) (h1 : digOk pin 4 12 = false) :
    Calls Try.prog 20 #[.int .i64 f, .string pin, .string pan, .slice A3 n3 c3] w fun e w' => e = .returned (.agg #[.int .i64 1, .slice none 0 0, .int .i64 0]) ∧ Below w.heap.size w w' := by
  have K1 : Aside0 (∀ w, Calls Try.prog 49 #[.string pin, .int .i64 4, .int .i64 12] w fun e w' => e = .returned (.bool false) ∧ Below w.heap.size w w') := ⟨fun w => by rw [← h1]; exact impl_digits.calls pin 4 12 w (by omega)⟩
  clear h1
  have BK : Aside0 ((w.alloc (.cells #[.int .i64 0, .slice none 0 0, .int .i64 0] 38)).heap[w.heap.size]? = some (.cells #[.int .i64 0, .slice none 0 0, .int .i64 0] 38)) := ⟨blk_new w _⟩
  have HB : Aside0 (Below w.heap.size w (w.alloc (.cells #[.int .i64 0, .slice none 0 0, .int .i64 0] 38))) := ⟨(Below.refl _ _).alloc (Nat.le_refl _) _⟩
  rcases hf with rfl | rfl
  all_goals
    go_enter Try.func20, Try.ntmps20
    go_wp2_with fail
    with_reducible refine (K1.out _).mono ?_
    rintro e wX ⟨rfl, hb1⟩
    have BK1 := Aside0.mk (blk_below BK.out hb1)
    have HB1 := Aside0.mk (below_step HB.out hb1)
    clear hb1
    have z0 : wX.cell? ⟨w.heap.size, 0, none⟩ = some (.int .i64 0) := (blk_cell BK1.out 0).trans rfl
    have z1 : wX.cell? ⟨w.heap.size, 1, none⟩ = some (.slice none 0 0) := (blk_cell BK1.out 1).trans rfl
    have z2 : wX.cell? ⟨w.heap.size, 2, none⟩ = some (.int .i64 0) := (blk_cell BK1.out 2).trans rfl
    have f0 := blk_frozen BK1.out 0
    have f1 := blk_frozen BK1.out 1
    have f2 := blk_frozen BK1.out 2
    go_wp2
    exact bodyPost_ret (results_cell_row rfl _ _ w.heap.size 38 _ (0, 0) _ rfl (blk_set (blk_set (blk_set BK1.out _ _) _ _) _ _) Try.underlying38 rfl infoPB) rfl ⟨rfl, ((HB1.out.setCell (p := ⟨w.heap.size, 0, none⟩) (Nat.le_refl _) _).setCell (p := ⟨w.heap.size, 1, none⟩) (Nat.le_refl _) _).setCell (p := ⟨w.heap.size, 2, none⟩) (Nat.le_refl _) _⟩
set_option maxHeartbeats 4000000 in
set_option maxRecDepth 100000 in
theorem impl_MakePin.bad2 (f : Int) (hf : f = 0 ∨ f = 3) (pin pan : ByteArray) (A3 : Option Addr) (n3 c3 : Nat) (w : World) (hp : pin.size ≤ 1000000000) (hq : pan.size ≤ 1000000000) (h1 : digOk pin 4 12 = true) (h2 : digOk pan 13 19 = false) :
    Calls Try.prog 20 #[.int .i64 f, .string pin, .string pan, .slice A3 n3 c3] w fun e w' => e = .returned (.agg #[.int .i64 1, .slice none 0 0, .int .i64 0]) ∧ Below w.heap.size w w' := by
  have K1 : Aside0 (∀ w, Calls Try.prog 49 #[.string pin, .int .i64 4, .int .i64 12] w fun e w' => e = .returned (.bool true) ∧ Below w.heap.size w w') := ⟨fun w => by rw [← h1]; exact impl_digits.calls pin 4 12 w (by omega)⟩
  have K2 : Aside0 (∀ w, Calls Try.prog 49 #[.string pan, .int .i64 13, .int .i64 19] w fun e w' => e = .returned (.bool false) ∧ Below w.heap.size w w') := ⟨fun w => by rw [← h2]; exact impl_digits.calls pan 13 19 w (by omega)⟩
  clear h1 h2
  have BK : Aside0 ((w.alloc (.cells #[.int .i64 0, .slice none 0 0, .int .i64 0] 38)).heap[w.heap.size]? = some (.cells #[.int .i64 0, .slice none 0 0, .int .i64 0] 38)) := ⟨blk_new w _⟩
  have HB : Aside0 (Below w.heap.size w (w.alloc (.cells #[.int .i64 0, .slice none 0 0, .int .i64 0] 38))) := ⟨(Below.refl _ _).alloc (Nat.le_refl _) _⟩
  rcases hf with rfl | rfl
  all_goals
    go_enter Try.func20, Try.ntmps20
    go_wp2_with fail
    with_reducible refine (K1.out _).mono ?_
    rintro e w1 ⟨rfl, hb1⟩
    have BK0 := Aside0.mk (blk_below BK.out hb1)
    have HB0 := Aside0.mk (below_step HB.out hb1)
    clear hb1
    go_wp2_with fail
    with_reducible refine (K2.out _).mono ?_
    rintro e wX ⟨rfl, hb1⟩
    have BK1 := Aside0.mk (blk_below BK0.out hb1)
    have HB1 := Aside0.mk (below_step HB0.out hb1)
    clear hb1
    have z0 : wX.cell? ⟨w.heap.size, 0, none⟩ = some (.int .i64 0) := (blk_cell BK1.out 0).trans rfl
    have z1 : wX.cell? ⟨w.heap.size, 1, none⟩ = some (.slice none 0 0) := (blk_cell BK1.out 1).trans rfl
    have z2 : wX.cell? ⟨w.heap.size, 2, none⟩ = some (.int .i64 0) := (blk_cell BK1.out 2).trans rfl
    have f0 := blk_frozen BK1.out 0
    have f1 := blk_frozen BK1.out 1
    have f2 := blk_frozen BK1.out 2
    go_wp2
    exact bodyPost_ret (results_cell_row rfl _ _ w.heap.size 38 _ (0, 0) _ rfl (blk_set (blk_set (blk_set BK1.out _ _) _ _) _ _) Try.underlying38 rfl infoPB) rfl ⟨rfl, ((HB1.out.setCell (p := ⟨w.heap.size, 0, none⟩) (Nat.le_refl _) _).setCell (p := ⟨w.heap.size, 1, none⟩) (Nat.le_refl _) _).setCell (p := ⟨w.heap.size, 2, none⟩) (Nat.le_refl _) _⟩
end Go.Proofs.Ytiejallnkgllnaa
namespace Go.Proofs.Ytiejallnkgllnaa
open Go.RowKit Go.Proofs.YtiejallnkgllnaaW.PrintWords Go.Proofs.YtiejallnkgllnaaW.PrintLast Go.Proofs.YtiejallnkgllnaaW.PrintMore Go.Proofs.Ytiejallnkgllnaa.D
set_option linter.unusedVariables false
/-- A row that a string was turned into. -/
def CV (w : World) (g : Nat) (L : List Int) : Prop := g < w.heap.size ∧ ∀ j, j < L.length → w.cell? ⟨g, j, none⟩ = some (.int .u8 (nth L j))
theorem CV.new (w : World) (s : ByteArray) : CV (Lib.bytesWorld w 5 s) w.heap.size (bI s) := by
  refine ⟨by rw [Lib.bytesWorld_size]; omega, fun j hj => ?_⟩
  rw [bI_length] at hj
  rw [Lib.bytesWorld_cell w _ s j hj, nth_at _ _ (by rw [bI_length]; exact hj)]
  simp [bI, List.getD_eq_getElem?_getD, hj]
theorem CV.grown {w w1 : World} {g : Nat} {L : List Int} (h : CV w g L) {row : Option Nat} (hg : w.grownBy w1 row) (hne : some g ≠ row) : CV w1 g L := by
  refine ⟨Nat.lt_of_lt_of_le h.1 hg.size, fun j hj => ?_⟩
  rw [World.cell?_of_block (w' := w1) (w := w) (hg.block g h.1 hne)]
  exact h.2 j hj
theorem bytesWorld_below {B : Nat} {w w1 : World} (e : TypeId) (s : ByteArray) (h : Below B w w1) (hB : B ≤ w1.heap.size) : Below B w (Lib.bytesWorld w1 e s) := by
  refine h.trans ⟨rfl, rfl, rfl, by rw [Lib.bytesWorld_size]; omega, fun k hk => Lib.bytesWorld_at_old w1 e s k (by omega)⟩
theorem conv_run (w : World) (s : ByteArray) : (convert 9 29 (.string s)).run Try.prog w = .ok (.slice (some ⟨w.heap.size, 0, none⟩) s.size (grownCap w s.size 0 5)) (Lib.bytesWorld w 5 s) :=
  Lib.run_convert_string_bytes w 9 29 5 s Try.underlying9 Try.underlying29 Try.underlying5
def accS (s : ByteArray) : List Int := [0, 0, 0, 0] ++ (((bI s).drop (s.size - 13)).take 12).map fun x => (x - 48) % 256

set_option maxHeartbeats 2000000 in
set_option maxRecDepth 100000 in
theorem spec_l4Account.at (s : ByteArray) (w : World) (h13 : 13 ≤ s.size) (hm : s.size ≤ 1000000000) :
    Calls Try.prog 46 #[.string s] w fun e w' => ∃ v : Value, e = .returned v ∧ Kd.R (Kd.int .u8) 5 w' w.heap.size (fun _ => True) v (accS s) ∧ Below w.heap.size w w' := by
  have hcv := fun (W : World) => conv_run W (s.extract (s.size - 13) (s.size - 1))
  obtain ⟨T, hT⟩ : ∃ T, T = s.extract (s.size - 13) (s.size - 1) := ⟨_, rfl⟩
  have HT := Aside0.mk hT
  have hTz : T.size = 12 := by rw [hT, ByteArray.size_extract]; omega
  rw [← hT] at hcv
  have hex : s.extract (s.size - 13) (s.size - 1) = T := hT.symm
  clear hT
  go_enter Try.func46, Try.ntmps46
  go_wp2_with fail
  have hacc : Aside0 (accS s = [0, 0, 0, 0] ++ (bI T).map fun x => (x - 48) % 256) := ⟨by rw [HT.out, bI_extract, show s.size - 1 - (s.size - 13) = 12 by omega]; rfl⟩
  have hLl : Aside0 ((bI T).length = 12) := ⟨by rw [bI_length]; exact hTz⟩
  have HCV := Aside0.mk (CV.new (w.alloc (.cells #[.int .u8 0, .int .u8 0, .int .u8 0, .int .u8 0] 5)) T)
  have HB0 : Aside0 (Below w.heap.size w (w.alloc (.cells #[.int .u8 0, .int .u8 0, .int .u8 0, .int .u8 0] 5))) := ⟨(Below.refl _ _).alloc (Nat.le_refl _) _⟩
  have HB := Aside0.mk (bytesWorld_below 5 T HB0.out HB0.out.size)
  have HR0 : Aside0 (Blk (w.alloc (.cells #[.int .u8 0, .int .u8 0, .int .u8 0, .int .u8 0] 5)) w.heap.size .u8 5 [0, 0, 0, 0]) := ⟨blk_new w _⟩
  have HR : Aside0 (Kd.R (Kd.int .u8) 5 (Lib.bytesWorld (w.alloc (.cells #[.int .u8 0, .int .u8 0, .int .u8 0, .int .u8 0] 5)) 5 T) w.heap.size (fun k => k ≠ w.heap.size + 1) (.slice (some ⟨w.heap.size, 0, none⟩) 4 4) [0, 0, 0, 0]) :=
    ⟨Kd.R_reok rfl ((HR0.out.below (bytesWorld_below 5 T (Below.refl _ _) (Nat.le_refl _))).R (n := 4) (Nat.le_refl _) rfl (by omega)) (fun k hk => by simp [Value.ownBlock] at hk; omega)⟩
  rw [show (w.alloc (.cells #[.int .u8 0, .int .u8 0, .int .u8 0, .int .u8 0] 5)).heap.size = w.heap.size + 1 by simp] at HCV
  generalize Lib.bytesWorld (w.alloc (.cells #[.int .u8 0, .int .u8 0, .int .u8 0, .int .u8 0] 5)) 5 T = W at HCV HB HR ⊢
  obtain ⟨g, hg⟩ : ∃ g, g = w.heap.size + 1 := ⟨_, rfl⟩
  obtain ⟨C, hC⟩ : ∃ C, C = grownCap (w.alloc (.cells #[.int .u8 0, .int .u8 0, .int .u8 0, .int .u8 0] 5)) 12 0 5 := ⟨_, rfl⟩
  rw [← hg] at HCV HR ⊢
  rw [← hC]
  clear hg hC HB0 HR0 hcv hex
  obtain ⟨L, hL⟩ : ∃ L, L = bI T := ⟨_, rfl⟩
  rw [← hL] at HCV hacc hLl
  have hLl' := hLl.out
  clear hL
  go_loopw [3, 5, 17] (fun v3 v5 v17 wr => ∃ k : Nat, k ≤ 12 ∧ v17 = .int .i64 k ∧ Aside0 (Kd.R (Kd.int .u8) 5 wr w.heap.size (fun k => k ≠ g) v3 ([0, 0, 0, 0] ++ (L.take k).map fun x => (x - 48) % 256)) ∧ Aside0 (CV wr g L) ∧ Aside0 (Below w.heap.size w wr))
    (fun _ _ v17 _ => 12 - (intOf v17).toNat)
  case atStart => exact ⟨0, by omega, rfl, HR, HCV, HB⟩
  case round =>
    obtain ⟨k, hk, rfl, HO, HC, HB⟩ := hrel
    by_cases hlt : k < 12
    · have hcell := HC.out.2 k (by omega)
      have HT1 := Aside0.mk (take_nth L k (by omega))
      have hgs := HC.out.1
      obtain ⟨x, hx⟩ : ∃ x, x = nth L k := ⟨_, rfl⟩
      rw [← hx] at hcell HT1
      clear hx hLl'
      obtain ⟨ac, hac⟩ : ∃ ac, ac = [0, 0, 0, 0] ++ (L.take k).map fun x => (x - 48) % 256 := ⟨_, rfl⟩
      rw [← hac] at HO
      have HAC := Aside0.mk hac
      have HLn : Aside0 ((ac.length + 1) * 1 ≤ 140737488355328) := ⟨by rw [hac]; simp; omega⟩
      clear hac
      go_wp2_with (first | ((with_reducible refine gate_builtin (b := .append) (xs := #[.tmp 21, .tmp 24]) rfl ?_); at_builtin; refine Kd.R_append (Kd.int .u8) (w0 := w) w.heap.size rfl (.tmp 21) (.tmp 24) 29 5 (.int .u8 0) 1 rfl Try.underlying29 info5 rfl (by decide) (by omega) u3 ac ((x - 48) % 256) [.int .u8 ((x - 48) % 256)] (fun k => k ≠ g) (fun _ => False) rfl rfl ?aP (fun _ hk => hk.elim) ?aF ?aO ?aB ?aS ?aL ?_; (case aP => exact rfl); (case aB => exact HB.out); (case aF => exact (fun _ hk => by omega)); (case aO => exact HO.out); (case aS => exact HB.out.size); (case aL => exact HLn.out); intro v1 w1 ho hb hg1 hat; have HO1 := Aside0.mk ho; have HB1 := Aside0.mk hb; have HG1 := Aside0.mk hg1; clear ho hb hg1 hat))
      go_roundw
      case rel => exact ⟨k + 1, by omega, by go_num, ⟨by rw [HT1.out, List.map_append, ← List.append_assoc, ← HAC.out]; exact HO1.out⟩, ⟨HC.out.grown HG1.out (fun h => HO.out.1 _ h.symm rfl)⟩, HB1⟩
      case measure => simp [intOf]; omega
    · obtain rfl : k = 12 := by omega
      rw [List.take_of_length_le (by omega), ← hacc.out] at HO
      go_wp2
      go_ret
      exact ⟨_, rfl, Kd.R_mono HO.out (fun _ _ => trivial), HB.out⟩
end Go.Proofs.Ytiejallnkgllnaa
namespace Go.Proofs.Ytiejallnkgllnaa.LQ
open Go.RowKit Go.Proofs.YtiejallnkgllnaaW.PrintWords Go.Proofs.YtiejallnkgllnaaW.PrintLast Go.Proofs.YtiejallnkgllnaaW.PrintMore Go.Proofs.Ytiejallnkgllnaa.D
open Go.Proofs.Ytiejallnkgllnaa
open Go.Proofs.Ytiejallnkgllnaa.B (xorL xorL_length)
set_option linter.unusedVariables false
theorem w64_succ {n : Nat} (h : n < 9223372036854775807) : wrap64 ((n : Int) + 1) = ((n + 1 : Nat) : Int) := by unfold wrap64; omega
theorem bt_bI (s : ByteArray) (i : Nat) (h : i < s.size) : bt s (i : Int) = nth (bI s) i := by
  rw [← bI_at s i h]
  simp [bt, h]
theorem digits_loop (s : ByteArray) (hm : s.size ≤ 1000000000) (d : Nat) : ∀ (k i : Nat), i ≤ s.size → s.size - i = d → d < k →
    spec_l4Digits.l0 k s (i : Int) = some ((s.data.toList.drop i).all dgB) := by
  induction d with
  | zero =>
    intro k i hi hd hk
    obtain ⟨k, rfl⟩ : ∃ m, k = m + 1 := ⟨k - 1, by omega⟩
    have hsz : s.data.toList.length = s.size := by simp
    rw [spec_l4Digits.l0, if_neg (by omega), List.drop_of_length_le (by omega)]
    rfl
  | succ d ih =>
    intro k i hi hd hk
    obtain ⟨k, rfl⟩ : ∃ m, k = m + 1 := ⟨k - 1, by omega⟩
    have hlt : i < s.size := by omega
    have hlt' : i < s.data.toList.length := by simpa using hlt
    have e : bt s (i : Int) = ((s.data.toList[i]'hlt').toNat : Int) := by
      rw [bt_bI s i hlt, nth_at _ _ (by rw [bI_length]; exact hlt)]
      simp [bI]
    rw [spec_l4Digits.l0, if_pos (by omega), if_pos (by omega), e, w64_succ (by omega), ih k (i + 1) (by omega) (by omega) (by omega), ← List.getElem_cons_drop hlt', List.all_cons]
    obtain ⟨b, hb⟩ : ∃ b, b = (s.data.toList[i]'hlt') := ⟨_, rfl⟩
    rw [← hb]
    by_cases h1 : (b.toNat : Int) < 48
    · rw [if_pos h1]
      have : dgB b = false := by simp [dgB]; omega
      rw [this]; rfl
    · rw [if_neg h1]
      by_cases h2 : (b.toNat : Int) > 57
      · rw [if_pos h2]
        have : dgB b = false := by simp [dgB]; omega
        rw [this]; rfl
      · rw [if_neg h2]
        have : dgB b = true := by simp [dgB]; omega
        rw [this]; rfl
theorem digits_eq (s : ByteArray) (lo hi : Int) (hm : s.size ≤ 1000000000) (k : Nat) (hk : s.size + 1 < k) : spec_l4Digits.f k s lo hi = some (digOk s lo hi) := by
  obtain ⟨k, rfl⟩ : ∃ m, k = m + 1 := ⟨k - 1, by omega⟩
  have hl := digits_loop s hm s.size k 0 (by omega) (by omega) (by omega)
  have hl' : spec_l4Digits.l0 k s 0 = some (allDg s) := hl
  unfold spec_l4Digits.f digOk
  by_cases h1 : (s.size : Int) < lo
  · have e1 : decide (lo ≤ (s.size : Int)) = false := decide_eq_false (by omega)
    rw [if_pos h1, spec_l4Digits.j0, if_pos rfl, e1]
    simp
  · have e1 : decide (lo ≤ (s.size : Int)) = true := decide_eq_true (by omega)
    rw [if_neg h1, spec_l4Digits.j0, e1, hl']
    by_cases h2 : (s.size : Int) > hi
    · have e2 : decide ((s.size : Int) ≤ hi) = false := decide_eq_false (by omega)
      rw [decide_eq_true h2, if_pos rfl, e2]
      simp
    · have e2 : decide ((s.size : Int) ≤ hi) = true := decide_eq_true (by omega)
      rw [decide_eq_false h2, if_neg (by decide), e2]
      simp
theorem goodPan_eq (s : ByteArray) (hm : s.size ≤ 1000000000) (k : Nat) (hk : s.size + 1 < k) : spec_l4GoodPan.f k s = some (digOk s 13 19) := by
  unfold spec_l4GoodPan.f
  rw [digits_eq s 13 19 hm k hk, Option.bind_some]
theorem xor_loop (a b : List Int) (hab : a.length ≤ b.length) (hl : a.length ≤ 1048576) (d : Nat) : ∀ (k i : Nat) (x5 : List Int), x5.length = a.length → i ≤ a.length → a.length - i = d → d < k →
    spec_l1Xor.l0 k a b x5 (a.length : Int) (i : Int) = some (x5.take i ++ (xorL a b).drop i) := by
  induction d with
  | zero =>
    intro k i x5 h5 hi hd hk
    obtain ⟨k, rfl⟩ : ∃ m, k = m + 1 := ⟨k - 1, by omega⟩
    rw [spec_l1Xor.l0, if_neg (by omega), List.drop_of_length_le (by rw [xorL_length a b hab]; omega), List.append_nil, List.take_of_length_le (by omega)]
  | succ d ih =>
    intro k i x5 h5 hi hd hk
    obtain ⟨k, rfl⟩ : ∃ m, k = m + 1 := ⟨k - 1, by omega⟩
    have hlt : i < a.length := by omega
    have hx : i < (xorL a b).length := by rw [xorL_length a b hab]; exact hlt
    rw [spec_l1Xor.l0, if_pos (by omega), if_pos (by omega), if_pos (by omega), if_pos (by omega), if_pos (by omega), w64_succ (by omega), Int.toNat_natCast, ih k (i + 1) _ (by simpa using h5) (by omega) (by omega) (by omega)]
    congr 1
    have e : (x5.set i (Go.bits .xor .u8 (rd a (i : Int)) (rd b (i : Int)))).take (i + 1) = x5.take i ++ [Go.bits .xor .u8 (rd a (i : Int)) (rd b (i : Int))] := by
      rw [take_nth _ _ (by simp; omega), nth_at _ _ (by simp; omega), List.getElem_set_self, List.take_set_of_le (Nat.le_refl _)]
    rw [e, List.append_assoc, List.singleton_append, ← List.getElem_cons_drop hx]
    congr 2
    rw [rd_nth, rd_nth, nth_at a i hlt, nth_at b i (by omega)]
    simp [xorL]
theorem xor_eq (a b : List Int) (hab : a.length ≤ b.length) (hl : a.length ≤ 1048576) (k : Nat) (hk : a.length < k) : spec_l1Xor.f k a b = some (xorL a b) := by
  unfold spec_l1Xor.f
  rw [if_pos (by omega), if_pos (by omega), Int.toNat_natCast]
  have h := xor_loop a b hab hl a.length k 0 (List.replicate a.length 0) (by simp) (by omega) (by omega) hk
  simpa using h
theorem nib_xor (a b c d : Int) (ha : 0 ≤ a ∧ a ≤ 15) (hb : 0 ≤ b ∧ b ≤ 15) (hc : 0 ≤ c ∧ c ≤ 15) (hd : 0 ≤ d ∧ d ≤ 15) : Go.bits .xor .u8 (16 * a + b) (16 * c + d) = 16 * Go.bits .xor .u8 a c + Go.bits .xor .u8 b d ∧ 0 ≤ Go.bits .xor .u8 a c ∧ Go.bits .xor .u8 a c ≤ 15 := by
  obtain ⟨⟨a, rfl⟩, ha⟩ : (∃ n : Nat, a = n) ∧ a ≤ 15 := ⟨⟨a.toNat, by omega⟩, ha.2⟩
  obtain ⟨⟨b, rfl⟩, hb⟩ : (∃ n : Nat, b = n) ∧ b ≤ 15 := ⟨⟨b.toNat, by omega⟩, hb.2⟩
  obtain ⟨⟨c, rfl⟩, hc⟩ : (∃ n : Nat, c = n) ∧ c ≤ 15 := ⟨⟨c.toNat, by omega⟩, hc.2⟩
  obtain ⟨⟨d, rfl⟩, hd⟩ : (∃ n : Nat, d = n) ∧ d ≤ 15 := ⟨⟨d.toNat, by omega⟩, hd.2⟩
  have h := (List.all_eq_true.1 (show ((List.range 16).all fun a => (List.range 16).all fun b => (List.range 16).all fun c => (List.range 16).all fun d => decide (Go.bits .xor .u8 (16 * (a : Int) + (b : Int)) (16 * (c : Int) + (d : Int)) = 16 * Go.bits .xor .u8 (a : Int) (c : Int) + Go.bits .xor .u8 (b : Int) (d : Int) ∧ 0 ≤ Go.bits .xor .u8 (a : Int) (c : Int) ∧ Go.bits .xor .u8 (a : Int) (c : Int) ≤ 15)) = true by decide +kernel)) a (List.mem_range.2 (by omega))
  have h := (List.all_eq_true.1 h) b (List.mem_range.2 (by omega))
  have h := (List.all_eq_true.1 h) c (List.mem_range.2 (by omega))
  exact of_decide_eq_true ((List.all_eq_true.1 h) d (List.mem_range.2 (by omega)))
/-- Digits, two to a byte. -/
def packL : List Int → List Int
  | a :: b :: t => (16 * a + b) :: packL t
  | _ => []
theorem xorL_cons (a c : Int) (s t : List Int) : xorL (a :: s) (c :: t) = Go.bits .xor .u8 a c :: xorL s t := rfl
theorem packL_xor : ∀ (n : Nat) (ds es : List Int), ds.length = 2 * n → es.length = 2 * n → Nibs ds → Nibs es → packL (xorL ds es) = xorL (packL ds) (packL es) ∧ Nibs (xorL ds es)
  | 0, [], [], _, _, _, _ => ⟨rfl, fun d hd => by simp [xorL] at hd⟩
  | n + 1, a :: b :: ds, c :: d :: es, h1, h2, h3, h4 => by
    have ha := h3 a (by simp)
    have hb := h3 b (by simp)
    have hc := h4 c (by simp)
    have hd := h4 d (by simp)
    obtain ⟨i1, i2⟩ := packL_xor n ds es (by simp at h1; omega) (by simp at h2; omega) (fun x hx => h3 x (by simp [hx])) (fun x hx => h4 x (by simp [hx]))
    have e := nib_xor a b c d ha hb hc hd
    have e2 := nib_xor b b d d hb hb hd hd
    refine ⟨?_, fun x hx => ?_⟩
    · rw [xorL_cons, xorL_cons, packL, i1, packL, packL, xorL_cons, e.1]
    · rw [xorL_cons, xorL_cons] at hx
      rcases List.mem_cons.1 hx with rfl | hx
      · exact e.2
      · rcases List.mem_cons.1 hx with rfl | hx
        · exact e2.2
        · exact i2 x hx
theorem byte_at (pre suf : List Int) (a b : Int) (ha : 0 ≤ a ∧ a ≤ 15) (hb : 0 ≤ b ∧ b ≤ 15) (hs : Nibs suf) : numH (pre ++ a :: b :: suf) / 16 ^ suf.length % 256 = 16 * a + b := by
  have e : pre ++ a :: b :: suf = (pre ++ [a] ++ [b]) ++ suf := by simp
  obtain ⟨h0, h1⟩ := numH_bound suf hs
  rw [e, numH_app, numH_snoc, numH_snoc, Int.add_comm, Int.add_mul_ediv_right _ _ (Int.ne_of_gt (Int.pow_pos (by decide))), Int.ediv_eq_zero_of_lt h0 h1]
  omega
theorem sixteen (l : List Int) (h : l.length = 16) : ∃ d0 d1 d2 d3 d4 d5 d6 d7 d8 d9 d10 d11 d12 d13 d14 d15, l = [d0, d1, d2, d3, d4, d5, d6, d7, d8, d9, d10, d11, d12, d13, d14, d15] := by
  match l, h with
  | [d0, d1, d2, d3, d4, d5, d6, d7, d8, d9, d10, d11, d12, d13, d14, d15], _ => exact ⟨_, _, _, _, _, _, _, _, _, _, _, _, _, _, _, _, rfl⟩
theorem outN_pack (ds : List Int) (h : ds.length = 16) (hn : Nibs ds) : outN (numH ds) 8 = packL ds := by
  obtain ⟨d0, d1, d2, d3, d4, d5, d6, d7, d8, d9, d10, d11, d12, d13, d14, d15, rfl⟩ := sixteen ds h
  have g : ∀ (pre suf : List Int) (a b : Int), pre ++ a :: b :: suf = [d0, d1, d2, d3, d4, d5, d6, d7, d8, d9, d10, d11, d12, d13, d14, d15] → numH [d0, d1, d2, d3, d4, d5, d6, d7, d8, d9, d10, d11, d12, d13, d14, d15] / 16 ^ suf.length % 256 = 16 * a + b := by
    intro pre suf a b e
    rw [← e] at hn ⊢
    exact byte_at pre suf a b (hn a (by simp)) (hn b (by simp)) (fun x hx => hn x (by simp [hx]))
  have g0 : numH [d0, d1, d2, d3, d4, d5, d6, d7, d8, d9, d10, d11, d12, d13, d14, d15] / 16 ^ 14 % 256 = 16 * d0 + d1 := g [] [d2, d3, d4, d5, d6, d7, d8, d9, d10, d11, d12, d13, d14, d15] d0 d1 rfl
  have g1 : numH [d0, d1, d2, d3, d4, d5, d6, d7, d8, d9, d10, d11, d12, d13, d14, d15] / 16 ^ 12 % 256 = 16 * d2 + d3 := g [d0, d1] [d4, d5, d6, d7, d8, d9, d10, d11, d12, d13, d14, d15] d2 d3 rfl
  have g2 : numH [d0, d1, d2, d3, d4, d5, d6, d7, d8, d9, d10, d11, d12, d13, d14, d15] / 16 ^ 10 % 256 = 16 * d4 + d5 := g [d0, d1, d2, d3] [d6, d7, d8, d9, d10, d11, d12, d13, d14, d15] d4 d5 rfl
  have g3 : numH [d0, d1, d2, d3, d4, d5, d6, d7, d8, d9, d10, d11, d12, d13, d14, d15] / 16 ^ 8 % 256 = 16 * d6 + d7 := g [d0, d1, d2, d3, d4, d5] [d8, d9, d10, d11, d12, d13, d14, d15] d6 d7 rfl
  have g4 : numH [d0, d1, d2, d3, d4, d5, d6, d7, d8, d9, d10, d11, d12, d13, d14, d15] / 16 ^ 6 % 256 = 16 * d8 + d9 := g [d0, d1, d2, d3, d4, d5, d6, d7] [d10, d11, d12, d13, d14, d15] d8 d9 rfl
  have g5 : numH [d0, d1, d2, d3, d4, d5, d6, d7, d8, d9, d10, d11, d12, d13, d14, d15] / 16 ^ 4 % 256 = 16 * d10 + d11 := g [d0, d1, d2, d3, d4, d5, d6, d7, d8, d9] [d12, d13, d14, d15] d10 d11 rfl
  have g6 : numH [d0, d1, d2, d3, d4, d5, d6, d7, d8, d9, d10, d11, d12, d13, d14, d15] / 16 ^ 2 % 256 = 16 * d12 + d13 := g [d0, d1, d2, d3, d4, d5, d6, d7, d8, d9, d10, d11] [d14, d15] d12 d13 rfl
  have g7 : numH [d0, d1, d2, d3, d4, d5, d6, d7, d8, d9, d10, d11, d12, d13, d14, d15] / 16 ^ 0 % 256 = 16 * d14 + d15 := g [d0, d1, d2, d3, d4, d5, d6, d7, d8, d9, d10, d11, d12, d13] [] d14 d15 rfl
  obtain ⟨v, hv⟩ : ∃ v, v = numH [d0, d1, d2, d3, d4, d5, d6, d7, d8, d9, d10, d11, d12, d13, d14, d15] := ⟨_, rfl⟩
  rw [← hv] at g0 g1 g2 g3 g4 g5 g6 g7 ⊢
  have e : outN v 8 = [v / 2 ^ 56 % 256, v / 2 ^ 48 % 256, v / 2 ^ 40 % 256, v / 2 ^ 32 % 256, v / 2 ^ 24 % 256, v / 2 ^ 16 % 256, v / 2 ^ 8 % 256, v / 2 ^ 0 % 256] := rfl
  rw [e, show (2 : Int) ^ 56 = 16 ^ 14 from by decide, g0,
    show (2 : Int) ^ 48 = 16 ^ 12 from by decide, g1,
    show (2 : Int) ^ 40 = 16 ^ 10 from by decide, g2,
    show (2 : Int) ^ 32 = 16 ^ 8 from by decide, g3,
    show (2 : Int) ^ 24 = 16 ^ 6 from by decide, g4,
    show (2 : Int) ^ 16 = 16 ^ 4 from by decide, g5,
    show (2 : Int) ^ 8 = 16 ^ 2 from by decide, g6,
    show (2 : Int) ^ 0 = 16 ^ 0 from by decide, g7]
  rfl
theorem pack_eq (l : List Int) (h : l.length = 16) (hn : Nibs l) (k : Nat) (hk : 8 < k) : spec_l4Pack.f k l = some (packL l) := by
  obtain ⟨d0, d1, d2, d3, d4, d5, d6, d7, d8, d9, d10, d11, d12, d13, d14, d15, rfl⟩ := sixteen l h
  obtain ⟨k, rfl⟩ : ∃ m, k = m + 9 := ⟨k - 9, by omega⟩
  have e : ∀ a b : Int, a ∈ [d0, d1, d2, d3, d4, d5, d6, d7, d8, d9, d10, d11, d12, d13, d14, d15] → b ∈ [d0, d1, d2, d3, d4, d5, d6, d7, d8, d9, d10, d11, d12, d13, d14, d15] → ((a * 16) % 256 + b) % 256 = 16 * a + b := fun a b ha hb => by
    have := hn a ha
    have := hn b hb
    omega
  have hf : spec_l4Pack.f (k + 9) [d0, d1, d2, d3, d4, d5, d6, d7, d8, d9, d10, d11, d12, d13, d14, d15] = some [((d0 * 16) % 256 + d1) % 256, ((d2 * 16) % 256 + d3) % 256, ((d4 * 16) % 256 + d5) % 256, ((d6 * 16) % 256 + d7) % 256, ((d8 * 16) % 256 + d9) % 256, ((d10 * 16) % 256 + d11) % 256, ((d12 * 16) % 256 + d13) % 256, ((d14 * 16) % 256 + d15) % 256] := by
    simp [spec_l4Pack.f, spec_l4Pack.l0, rd, wrap64]
  rw [hf, e d0 d1 (by simp) (by simp), e d2 d3 (by simp) (by simp), e d4 d5 (by simp) (by simp), e d6 d7 (by simp) (by simp), e d8 d9 (by simp) (by simp), e d10 d11 (by simp) (by simp), e d12 d13 (by simp) (by simp), e d14 d15 (by simp) (by simp)]
  rfl
/-- The packed XOR of digits. -/
theorem pin_pack (ds : List Int) (pan : ByteArray) (h : ds.length = 16) (hn : Nibs ds) (hp : allDg pan = true) (h13 : 13 ≤ pan.size) : packL (xorL ds (accD pan)) = pinBlk ds pan ∧ Nibs (xorL ds (accD pan)) ∧ (xorL ds (accD pan)).length = 16 := by
  have ha := accD_length pan h13
  have hna := accD_nibs hp
  obtain ⟨i1, i2⟩ := packL_xor 8 ds (accD pan) h ha hn hna
  refine ⟨?_, i2, by rw [xorL_length _ _ (by omega), h]⟩
  rw [i1, pinBlk, outN_pack ds h hn, outN_pack _ ha hna]
theorem accS_eq (s : ByteArray) (h : allDg s = true) : accS s = accD s := by
  unfold accS accD dgs
  rw [← List.map_drop, ← List.map_take]
  congr 1
  refine List.map_congr_left fun x hx => ?_
  have := allDg_bI h x (List.mem_of_mem_drop (List.mem_of_mem_take hx))
  omega
end Go.Proofs.Ytiejallnkgllnaa.LQ
namespace Go.Proofs.Ytiejallnkgllnaa
open Go.RowKit Go.Proofs.YtiejallnkgllnaaW.PrintWords Go.Proofs.YtiejallnkgllnaaW.PrintLast Go.Proofs.YtiejallnkgllnaaW.PrintMore Go.Proofs.Ytiejallnkgllnaa.D
open Go.Proofs.Ytiejallnkgllnaa.B (xorL xorL_length)
set_option linter.unusedVariables false
theorem dgs_at (s : ByteArray) (k : Nat) (h : k < s.size) : nth (bI s) k - 48 = nth (dgs s) k := by
  rw [nth_at _ _ (by rw [bI_length]; exact h), nth_at _ _ (by rw [dgs_length]; exact h)]
  simp [dgs]
set_option maxHeartbeats 4000000 in
set_option maxRecDepth 100000 in
theorem spec_MakePin.f0 (pin pan : ByteArray) (A3 : Option Addr) (n3 c3 : Nat) (w : World) (h1 : digOk pin 4 12 = true) (h2 : digOk pan 13 19 = true) (p4 : 4 ≤ pin.size) (p12 : pin.size ≤ 12) (q13 : 13 ≤ pan.size) (q19 : pan.size ≤ 19) (hpd : allDg pin = true) (hqd : allDg pan = true) :
    Calls Try.prog 19 #[.int .i64 0, .string pin, .string pan, .slice A3 n3 c3] w fun e w' => ∃ v : Value, e = .returned (.agg #[.int .i64 0, v, .int .i64 0]) ∧ Kd.R (Kd.int .u8) 5 w' w.heap.size (fun _ => True) v (pinBlk (0 :: (pin.size : Int) :: dgs pin ++ List.replicate (14 - pin.size) 15) pan) ∧ Below w.heap.size w w' := by
  have K1 : Aside0 (∀ w, Calls Try.prog 53 #[.string pin, .int .i64 4, .int .i64 12] w fun e w' => e = .returned (.bool true) ∧ Drawn0 w w') := ⟨fun w => by rw [← h1]; exact LQ.spec_l4Digits.calls 40 pin 4 12 _ w (LQ.digits_eq pin 4 12 (by omega) 40 (by omega))⟩
  have K2 : Aside0 (∀ w, Calls Try.prog 44 #[.string pan] w fun e w' => e = .returned (.bool true) ∧ Drawn0 w w') := ⟨fun w => by rw [← h2]; exact LQ.spec_l4GoodPan.calls 40 pan _ w (LQ.goodPan_eq pan (by omega) 40 (by omega))⟩
  have HP := Aside0.mk hpd
  have HQ := Aside0.mk hqd
  clear h1 h2 hpd hqd
  obtain ⟨DS, hDS⟩ : ∃ DS, DS = 0 :: (pin.size : Int) :: dgs pin ++ List.replicate (14 - pin.size) 15 := ⟨_, rfl⟩
  rw [← hDS]
  obtain ⟨cs, hcs⟩ : ∃ cs, cs = pinBlk DS pan := ⟨_, rfl⟩
  rw [← hcs]
  have HDS := Aside0.mk hDS
  have HCS := Aside0.mk hcs
  clear hDS hcs
  have hcv := fun (W : World) => conv_run W pin
  have hn256 : (pin.size : Int) % 256 = (pin.size : Int) := by omega
  go_enter Try.func19, Try.ntmps19
  go_wp2_with fail
  with_reducible refine (K1.out _).mono ?_
  rintro e w1 ⟨rfl, hd1⟩
  go_wp2_with fail
  with_reducible refine (K2.out _).mono ?_
  rintro e w2 ⟨rfl, hd2⟩
  go_wp2_with fail
  obtain ⟨W0, hW0⟩ : ∃ W0, W0 = w2.alloc (.cells #[.int .u8 0, .int .u8 (pin.size : Int)] 5) := ⟨_, rfl⟩
  have BK0 : Aside0 (W0.heap[w.heap.size]? = some (.cells #[.int .i64 0, .slice none 0 0, .int .i64 0] 38)) := ⟨by rw [hW0]; exact blk_alloc (blk_below (blk_below (blk_new w _) hd1.below) hd2.below) _⟩
  have HB2 : Aside0 (Below w.heap.size w w2) := ⟨below_step (below_step ((Below.refl _ _).alloc (Nat.le_refl _) _) hd1.below) hd2.below⟩
  have HB0 : Aside0 (Below w.heap.size w W0) := ⟨by rw [hW0]; exact HB2.out.alloc HB2.out.size _⟩
  have HR0 : Aside0 (Blk W0 w2.heap.size .u8 5 [0, (pin.size : Int)]) := ⟨by rw [hW0]; exact blk_new w2 _⟩
  have hg0 : W0.heap.size = w2.heap.size + 1 := by rw [hW0]; simp
  have hgw : w.heap.size < w2.heap.size := blk_lt (blk_below (blk_below (blk_new w (.cells #[.int .i64 0, .slice none 0 0, .int .i64 0] 38)) hd1.below) hd2.below)
  rw [← hW0]
  clear hW0 hd1 hd2
  have HCV := Aside0.mk (CV.new W0 pin)
  have HB := Aside0.mk (bytesWorld_below 5 pin HB0.out HB0.out.size)
  have HBL := Aside0.mk (bytesWorld_below (B := W0.heap.size) 5 pin (Below.refl _ W0) (Nat.le_refl _))
  have BK := Aside0.mk (blk_below BK0.out HBL.out)
  have HR : Aside0 (Kd.R (Kd.int .u8) 5 (Lib.bytesWorld W0 5 pin) w.heap.size (fun k => k ≠ w.heap.size ∧ k ≠ w2.heap.size + 1) (.slice (some ⟨w2.heap.size, 0, none⟩) 2 2) [0, (pin.size : Int)]) :=
    ⟨Kd.R_reok rfl ((HR0.out.below HBL.out).R (n := 2) HB2.out.size rfl (by omega)) (fun k hk => by simp [Value.ownBlock] at hk; omega)⟩
  rw [hg0] at HCV
  generalize Lib.bytesWorld W0 5 pin = W at HCV HB BK HR ⊢
  obtain ⟨g, hg⟩ : ∃ g, g = w2.heap.size + 1 := ⟨_, rfl⟩
  obtain ⟨C, hC⟩ : ∃ C, C = grownCap W0 pin.size 0 5 := ⟨_, rfl⟩
  rw [← hg] at HCV HR ⊢
  rw [← hC]
  obtain ⟨z2, hz2⟩ : ∃ z2, z2 = w2.heap.size := ⟨_, rfl⟩
  rw [← hz2] at HR ⊢
  clear hg hC HB0 HB2 BK0 HR0 HBL hcv hgw hg0 hz2
  have HL := Aside0.mk (bI_length pin)
  go_loopw [9, 11, 40] (fun v9 v11 v40 wr => ∃ k : Nat, k ≤ pin.size ∧ v40 = .int .i64 k ∧ Aside0 (Kd.R (Kd.int .u8) 5 wr w.heap.size (fun k => k ≠ w.heap.size ∧ k ≠ g) v9 ([0, (pin.size : Int)] ++ (dgs pin).take k)) ∧ Aside0 (CV wr g (bI pin)) ∧ Aside0 (wr.heap[w.heap.size]? = some (.cells #[.int .i64 0, .slice none 0 0, .int .i64 0] 38)) ∧ Aside0 (Below w.heap.size w wr))
    (fun _ _ v40 _ => pin.size - (intOf v40).toNat)
  case atStart => exact ⟨0, by omega, rfl, HR, HCV, BK, HB⟩
  case round =>
    clear HR HCV BK HB
    obtain ⟨k, hk, rfl, HO, HC, BK, HB⟩ := hrel
    by_cases hlt : k < pin.size
    · have hcell := HC.out.2 k (by rw [HL.out]; exact hlt)
      have HT1 := Aside0.mk (take_nth (dgs pin) k (by rw [dgs_length]; exact hlt))
      have hgs := HC.out.1
      have hbs := blk_lt BK.out
      have hx0 := allDg_bI HP.out (nth (bI pin) k) (by rw [nth_at _ _ (by rw [HL.out]; exact hlt)]; exact List.getElem_mem _)
      rw [← dgs_at pin k hlt] at HT1
      obtain ⟨x, hx⟩ : ∃ x, x = nth (bI pin) k := ⟨_, rfl⟩
      rw [← hx] at hcell HT1 hx0
      clear hx
      obtain ⟨hx0, hx1⟩ := hx0
      obtain ⟨ac, hac⟩ : ∃ ac, ac = [0, (pin.size : Int)] ++ (dgs pin).take k := ⟨_, rfl⟩
      rw [← hac] at HO
      have HAC := Aside0.mk hac
      have HLn : Aside0 ((ac.length + 1) * 1 ≤ 140737488355328) := ⟨by rw [hac]; simp; omega⟩
      have HF : Aside0 (∀ j, wr.heap.size ≤ j → j ≠ w.heap.size ∧ j ≠ g) := ⟨fun j hj => by omega⟩
      clear hac hbs
      go_wp2_with (first | ((with_reducible refine gate_builtin (b := .append) (xs := #[.tmp 44, .tmp 47]) rfl ?_); at_builtin; go_must (refine Kd.R_append (Kd.int .u8) (w0 := w) w.heap.size rfl (.tmp 44) (.tmp 47) 29 5 (.int .u8 0) 1 rfl Try.underlying29 info5 rfl (by decide) (by omega) u9 ac (x - 48) [.int .u8 (x - 48)] (fun k => k ≠ w.heap.size ∧ k ≠ g) (fun _ => False) rfl rfl ?aP (fun _ hk => hk.elim) ?aF ?aO ?aB ?aS ?aL ?_; (case aP => exact rfl); (case aB => exact HB.out); (case aF => exact HF.out); (case aO => exact HO.out); (case aS => exact HB.out.size); (case aL => exact HLn.out); intro v1 w1 ho hb hg1 hat; have HO1 := Aside0.mk ho; have HB1 := Aside0.mk hb; have HG1 := Aside0.mk hg1; clear ho hb hg1 hat)))
      go_roundw
      case rel => exact ⟨k + 1, by omega, by go_num, ⟨by rw [HT1.out, ← List.append_assoc, ← HAC.out]; exact HO1.out⟩, ⟨HC.out.grown HG1.out (fun h => (HO.out.1 _ h.symm).2 rfl)⟩, ⟨blk_grown BK.out HG1.out (fun h => (HO.out.1 _ h.symm).1 rfl)⟩, HB1⟩
      case measure => simp [intOf]; omega
    · obtain rfl : k = pin.size := by omega
      rw [List.take_of_length_le (by rw [dgs_length]; exact Nat.le_refl _)] at HO
      have hgc := HC.out.1
      clear HC HL hlt hk
      go_wp2_with fail
      have hacc : Aside0 ([0, (pin.size : Int)] ++ dgs pin = 0 :: (pin.size : Int) :: dgs pin) := ⟨rfl⟩
      rw [hacc.out] at HO
      clear hacc
      obtain ⟨w0, hw0⟩ : ∃ w0 : World, w0 = wr := ⟨_, rfl⟩
      have hgw0 : g < w0.heap.size := by rw [hw0]; exact hgc
      have hsw0 := blk_lt BK.out
      rw [← hw0] at HO BK HB hsw0 ⊢
      clear hw0 hgc
      obtain ⟨x9, hx9⟩ : ∃ x9, x9 = u9 := ⟨_, rfl⟩
      rw [← hx9] at HO ⊢
      clear hx9
      go_loopw [9, 12, 13] (fun v9 v12 v13 wr => ∃ j : Nat, j + pin.size ≤ 14 ∧ v12 = .int .i64 0 ∧ w0.heap.size ≤ wr.heap.size ∧ Aside0 (Kd.R (Kd.int .u8) 5 wr w.heap.size (fun k => k ≠ w.heap.size ∧ k ≠ g) v9 (0 :: (pin.size : Int) :: dgs pin ++ List.replicate j 15)) ∧ Aside0 (wr.heap[w.heap.size]? = some (.cells #[.int .i64 0, .slice none 0 0, .int .i64 0] 38)) ∧ Aside0 (Below w.heap.size w wr))
        (fun v9 _ _ _ => match v9 with | .slice _ n _ => 16 - n | _ => 0)
      case atStart => exact ⟨0, by omega, rfl, Nat.le_refl _, ⟨by simpa using HO.out⟩, BK, HB⟩
      case round =>
        clear HO BK HB
        obtain ⟨j, hj, rfl, hws, HO, BK, HB⟩ := hrel
        obtain ⟨ac, hac⟩ : ∃ ac, ac = 0 :: (pin.size : Int) :: dgs pin ++ List.replicate j 15 := ⟨_, rfl⟩
        rw [← hac] at HO
        have hal : ac.length = pin.size + 2 + j := by rw [hac]; simp [dgs_length]; omega
        have HAC := Aside0.mk hac
        clear hac
        obtain ⟨A9, c9, e9⟩ := Kd.R_slice HO.out
        subst e9
        rw [hal] at HO ⊢
        by_cases hlt : j + pin.size < 14
        · have HLn : Aside0 ((ac.length + 1) * 1 ≤ 140737488355328) := ⟨by omega⟩
          have HF : Aside0 (∀ j, wr.heap.size ≤ j → j ≠ w.heap.size ∧ j ≠ g) := ⟨fun j hj => by omega⟩
          have HAL := Aside0.mk hal
          clear hal
          have c1 : decide (((pin.size + 2 + j : Nat) : Int) < 16) = true := decide_eq_true (by omega)
          go_wp2_with (first | ((with_reducible refine gate_builtin (b := .append) (xs := #[.tmp 68, .tmp 70]) rfl ?_); at_builtin; go_must (refine Kd.R_append (Kd.int .u8) (w0 := w) w.heap.size rfl (.tmp 68) (.tmp 70) 29 5 (.int .u8 0) 1 rfl Try.underlying29 info5 rfl (by decide) (by omega) (.slice A9 (pin.size + 2 + j) c9) ac 15 [.int .u8 15] (fun k => k ≠ w.heap.size ∧ k ≠ g) (fun _ => False) rfl rfl ?bP (fun _ hk => hk.elim) ?bF ?bO ?bB ?bS ?bL ?_; (case bP => exact rfl); (case bB => exact HB.out); (case bF => exact HF.out); (case bO => exact HO.out); (case bS => exact HB.out.size); (case bL => exact HLn.out); intro v1 w1 ho hb hg1 hat; have HO1 := Aside0.mk ho; have HB1 := Aside0.mk hb; have HG1 := Aside0.mk hg1; clear ho hb hg1 hat)))
          obtain ⟨A1, d1, e1⟩ := Kd.R_slice HO1.out
          have e1' : ac.length + 1 = pin.size + 2 + (j + 1) := by rw [HAL.out]; omega
          rw [List.length_append, List.length_singleton, e1'] at e1
          subst e1
          go_roundw
          case rel => exact ⟨j + 1, by omega, rfl, Nat.le_trans hws HG1.out.size, ⟨by rw [List.replicate_succ', ← List.append_assoc, ← HAC.out]; exact HO1.out⟩, ⟨blk_grown BK.out HG1.out (fun h => (HO.out.1 _ h.symm).1 rfl)⟩, HB1⟩
          case measure => simp; omega
        · obtain rfl : j = 14 - pin.size := by omega
          rw [← HDS.out] at HAC
          obtain rfl := HAC.out
          have e16 : pin.size + 2 + (14 - pin.size) = 16 := by omega
          rw [e16] at hal HO ⊢
          have DN : Nibs ac := by
            rw [HDS.out]
            refine Nibs.app (fun d hd => ?_) (fun d hd => ?_)
            · rcases List.mem_cons.1 hd with rfl | hd
              · omega
              · rcases List.mem_cons.1 hd with rfl | hd
                · omega
                · exact (HexOf.dig HP.out).2 d hd
            · have := (List.mem_replicate.1 hd).2
              omega
          obtain ⟨P1, P2, P3⟩ := LQ.pin_pack ac pan hal DN HQ.out q13
          rw [← HCS.out] at P1
          have hcl : cs.length = 8 := by rw [HCS.out, pinBlk, xorL_length _ _ (by rw [outN_length _ _ (by omega), outN_length _ _ (by omega)]; exact Nat.le_refl _), outN_length _ _ (by omega)]
          have hal2 := accD_length pan q13
          obtain ⟨X, hX⟩ : ∃ X, X = xorL ac (accD pan) := ⟨_, rfl⟩
          have K46 : Aside0 (∀ w, Calls Try.prog 46 #[.string pan] w fun e w' => ∃ v : Value, e = .returned v ∧ Kd.R (Kd.int .u8) 5 w' w.heap.size (fun _ => True) v (accD pan) ∧ Below w.heap.size w w') := ⟨fun w => by rw [← LQ.accS_eq pan HQ.out]; exact spec_l4Account.at pan w q13 (by omega)⟩
          have K45 : Aside0 (∀ (A : Option Addr) (c : Nat) (A' : Option Addr) (c' : Nat) (w : World), Kd.C (Kd.int .u8) w A 16 ac → 16 ≤ c → Kd.C (Kd.int .u8) w A' 16 (accD pan) → 16 ≤ c' → Calls Try.prog 45 #[.slice A 16 c, .slice A' 16 c'] w fun e w' => ∃ v : Value, e = .returned v ∧ Kd.R (Kd.int .u8) 5 w' w.heap.size (fun _ => True) v X ∧ Below w.heap.size w w') := ⟨fun A c A' c' w h1 h2 h3 h4 => by
            have := LQ.spec_l1Xor.calls 40 A c ac A' c' (accD pan) X w (by rw [hal]; exact h1) (by rw [hal]; exact h2) (by rw [hal2]; exact h3) (by rw [hal2]; exact h4) (by rw [hX]; exact LQ.xor_eq ac (accD pan) (by omega) (by omega) 40 (by omega))
            rw [hal, hal2] at this
            exact this⟩
          have K54 : Aside0 (∀ (A : Option Addr) (c : Nat) (w : World), Kd.C (Kd.int .u8) w A 16 X → 16 ≤ c → Calls Try.prog 54 #[.slice A 16 c] w fun e w' => ∃ v : Value, e = .returned v ∧ Kd.R (Kd.int .u8) 5 w' w.heap.size (fun _ => True) v cs ∧ Below w.heap.size w w') := ⟨fun A c w h1 h2 => by
            have := LQ.spec_l4Pack.calls 40 A c X cs w (by rw [hX, P3]; rw [hX] at h1; exact h1) (by rw [hX, P3]; exact h2) (by rw [hX, ← P1]; exact LQ.pack_eq _ P3 P2 40 (by omega))
            rw [show X.length = 16 by rw [hX]; exact P3] at this
            exact this⟩
          have hXl : X.length = 16 := by rw [hX]; exact P3
          have HCo := Aside0.mk (Kd.R_reads' HO.out)
          rw [hal] at HCo
          have HAL2 := Aside0.mk hal2
          have HXL := Aside0.mk hXl
          have HCL := Aside0.mk hcl
          clear P1 P2 P3 hX hXl hal2 hal DN hcl HO
          go_wp2_with fail
          with_reducible refine (K46.out _).mono ?_
          rintro e w3 ⟨v3, rfl, ho3, hb3⟩
          obtain ⟨Aa, ca, rfl⟩ := Kd.R_slice ho3
          have HA := Aside0.mk (Kd.R_reads' ho3)
          have HC3 := Aside0.mk (Kd.C_below HCo.out.2.2 hb3)
          have BK3 := Aside0.mk (blk_below BK.out hb3)
          have HB3 := Aside0.mk (below_step HB.out hb3)
          rw [HAL2.out] at HA ⊢
          clear ho3 hb3
          go_wp2_with fail
          with_reducible refine (K45.out _ _ _ _ _ HC3.out HCo.out.2.1 HA.out.2.2 HA.out.2.1).mono ?_
          rintro e w4 ⟨v4, rfl, ho4, hb4⟩
          obtain ⟨Ab, cb, rfl⟩ := Kd.R_slice ho4
          have HX4 := Aside0.mk (Kd.R_reads' ho4)
          have BK4 := Aside0.mk (blk_below BK3.out hb4)
          have HB4 := Aside0.mk (below_step HB3.out hb4)
          rw [HXL.out] at HX4 ⊢
          clear ho4 hb4
          go_wp2_with fail
          with_reducible refine (K54.out _ _ _ HX4.out.2.2 HX4.out.2.1).mono ?_
          rintro e w5 ⟨v5, rfl, ho5, hb5⟩
          obtain ⟨Ac, cc, rfl⟩ := Kd.R_slice ho5
          have HR5 := Aside0.mk (Kd.R_lower ho5 HB4.out.size)
          have BK5 := Aside0.mk (blk_below BK4.out hb5)
          have HB5 := Aside0.mk (below_step HB4.out hb5)
          clear ho5 hb5
          have z0 : w5.cell? ⟨w.heap.size, 0, none⟩ = some (.int .i64 0) := (blk_cell BK5.out 0).trans rfl
          have z1 : w5.cell? ⟨w.heap.size, 1, none⟩ = some (.slice none 0 0) := (blk_cell BK5.out 1).trans rfl
          have z2 : w5.cell? ⟨w.heap.size, 2, none⟩ = some (.int .i64 0) := (blk_cell BK5.out 2).trans rfl
          have f0 := blk_frozen BK5.out 0
          have f1 := blk_frozen BK5.out 1
          have f2 := blk_frozen BK5.out 2
          go_wp2
          refine bodyPost_ret (results_cell_row rfl _ _ w.heap.size 38 _ (0, 0) _ rfl (blk_set (blk_set (blk_set BK5.out _ _) _ _) _ _) Try.underlying38 rfl infoPB) rfl ⟨_, rfl, ?_, ((HB5.out.setCell (p := ⟨w.heap.size, 0, none⟩) (Nat.le_refl _) _).setCell (p := ⟨w.heap.size, 1, none⟩) (Nat.le_refl _) _).setCell (p := ⟨w.heap.size, 2, none⟩) (Nat.le_refl _) _⟩
          exact Kd.R_set (Kd.R_set (Kd.R_set HR5.out BK5.out (by decide) 0 _) (blk_set BK5.out 0 _) (by decide) 1 _) (blk_set (blk_set BK5.out 0 _) 1 _) (by decide) 2 _
end Go.Proofs.Ytiejallnkgllnaa
namespace Go.Proofs.Ytiejallnkgllnaa
open Go.RowKit Go.Proofs.YtiejallnkgllnaaW.PrintWords Go.Proofs.YtiejallnkgllnaaW.PrintLast Go.Proofs.YtiejallnkgllnaaW.PrintMore Go.Proofs.Ytiejallnkgllnaa.D
open Go.Proofs.Ytiejallnkgllnaa.B (xorL xorL_length)
set_option linter.unusedVariables false
theorem fillL_length (dr : List Int) (n : Nat) (h : n ≤ dr.length) : (fillL dr n).length = n := by simp [fillL]; omega
theorem fillL_nibs (dr : List Int) (h : Bytes dr) (n : Nat) : Nibs (fillL dr n) := fun d hd => by
  obtain ⟨x, hx, rfl⟩ := List.mem_map.1 hd
  have := h x (List.mem_of_mem_take hx)
  omega
set_option maxHeartbeats 4000000 in
set_option maxRecDepth 100000 in
theorem spec_MakePin.f3 (pin pan : ByteArray) (A3 : Option Addr) (dr : List Int) (c3 : Nat) (w : World) (hdr : Kd.C (Kd.int .u8) w A3 dr.length dr) (hdb : Bytes dr) (hdl : 14 - pin.size ≤ dr.length) (hdm : dr.length ≤ 9223372036854775807) (h1 : digOk pin 4 12 = true) (h2 : digOk pan 13 19 = true) (p4 : 4 ≤ pin.size) (p12 : pin.size ≤ 12) (q13 : 13 ≤ pan.size) (q19 : pan.size ≤ 19) (hpd : allDg pin = true) (hqd : allDg pan = true) :
    Calls Try.prog 19 #[.int .i64 3, .string pin, .string pan, .slice A3 dr.length c3] w fun e w' => ∃ v : Value, e = .returned (.agg #[.int .i64 0, v, .int .i64 ((14 - pin.size : Nat) : Int)]) ∧ Kd.R (Kd.int .u8) 5 w' w.heap.size (fun _ => True) v (pinBlk (3 :: (pin.size : Int) :: dgs pin ++ fillL dr (14 - pin.size)) pan) ∧ Below w.heap.size w w' := by
  have K1 : Aside0 (∀ w, Calls Try.prog 53 #[.string pin, .int .i64 4, .int .i64 12] w fun e w' => e = .returned (.bool true) ∧ Drawn0 w w') := ⟨fun w => by rw [← h1]; exact LQ.spec_l4Digits.calls 40 pin 4 12 _ w (LQ.digits_eq pin 4 12 (by omega) 40 (by omega))⟩
  have K2 : Aside0 (∀ w, Calls Try.prog 44 #[.string pan] w fun e w' => e = .returned (.bool true) ∧ Drawn0 w w') := ⟨fun w => by rw [← h2]; exact LQ.spec_l4GoodPan.calls 40 pan _ w (LQ.goodPan_eq pan (by omega) 40 (by omega))⟩
  have HP := Aside0.mk hpd
  have HQ := Aside0.mk hqd
  have HDR := Aside0.mk hdr
  have HDB := Aside0.mk hdb
  clear h1 h2 hpd hqd hdr hdb
  obtain ⟨DS, hDS⟩ : ∃ DS, DS = 3 :: (pin.size : Int) :: dgs pin ++ fillL dr (14 - pin.size) := ⟨_, rfl⟩
  rw [← hDS]
  obtain ⟨cs, hcs⟩ : ∃ cs, cs = pinBlk DS pan := ⟨_, rfl⟩
  rw [← hcs]
  have HDS := Aside0.mk hDS
  have HCS := Aside0.mk hcs
  clear hDS hcs
  have hcv := fun (W : World) => conv_run W pin
  have hn256 : (pin.size : Int) % 256 = (pin.size : Int) := by omega
  go_enter Try.func19, Try.ntmps19
  go_wp2_with fail
  with_reducible refine (K1.out _).mono ?_
  rintro e w1 ⟨rfl, hd1⟩
  go_wp2_with fail
  with_reducible refine (K2.out _).mono ?_
  rintro e w2 ⟨rfl, hd2⟩
  go_wp2_with fail
  obtain ⟨W0, hW0⟩ : ∃ W0, W0 = w2.alloc (.cells #[.int .u8 3, .int .u8 (pin.size : Int)] 5) := ⟨_, rfl⟩
  have BK0 : Aside0 (W0.heap[w.heap.size]? = some (.cells #[.int .i64 0, .slice none 0 0, .int .i64 0] 38)) := ⟨by rw [hW0]; exact blk_alloc (blk_below (blk_below (blk_new w _) hd1.below) hd2.below) _⟩
  have HB2 : Aside0 (Below w.heap.size w w2) := ⟨below_step (below_step ((Below.refl _ _).alloc (Nat.le_refl _) _) hd1.below) hd2.below⟩
  have HB0 : Aside0 (Below w.heap.size w W0) := ⟨by rw [hW0]; exact HB2.out.alloc HB2.out.size _⟩
  have HR0 : Aside0 (Blk W0 w2.heap.size .u8 5 [3, (pin.size : Int)]) := ⟨by rw [hW0]; exact blk_new w2 _⟩
  have hg0 : W0.heap.size = w2.heap.size + 1 := by rw [hW0]; simp
  have hgw : w.heap.size < w2.heap.size := blk_lt (blk_below (blk_below (blk_new w (.cells #[.int .i64 0, .slice none 0 0, .int .i64 0] 38)) hd1.below) hd2.below)
  rw [← hW0]
  clear hW0 hd1 hd2
  have HCV := Aside0.mk (CV.new W0 pin)
  have HB := Aside0.mk (bytesWorld_below 5 pin HB0.out HB0.out.size)
  have HBL := Aside0.mk (bytesWorld_below (B := W0.heap.size) 5 pin (Below.refl _ W0) (Nat.le_refl _))
  have BK := Aside0.mk (blk_below BK0.out HBL.out)
  have HR : Aside0 (Kd.R (Kd.int .u8) 5 (Lib.bytesWorld W0 5 pin) w.heap.size (fun k => k ≠ w.heap.size ∧ k ≠ w2.heap.size + 1) (.slice (some ⟨w2.heap.size, 0, none⟩) 2 2) [3, (pin.size : Int)]) :=
    ⟨Kd.R_reok rfl ((HR0.out.below HBL.out).R (n := 2) HB2.out.size rfl (by omega)) (fun k hk => by simp [Value.ownBlock] at hk; omega)⟩
  rw [hg0] at HCV
  generalize Lib.bytesWorld W0 5 pin = W at HCV HB BK HR ⊢
  obtain ⟨g, hg⟩ : ∃ g, g = w2.heap.size + 1 := ⟨_, rfl⟩
  obtain ⟨C, hC⟩ : ∃ C, C = grownCap W0 pin.size 0 5 := ⟨_, rfl⟩
  rw [← hg] at HCV HR ⊢
  rw [← hC]
  obtain ⟨z2, hz2⟩ : ∃ z2, z2 = w2.heap.size := ⟨_, rfl⟩
  rw [← hz2] at HR ⊢
  clear hg hC HB0 HB2 BK0 HR0 HBL hcv hgw hg0 hz2
  have HL := Aside0.mk (bI_length pin)
  go_loopw [9, 11, 40] (fun v9 v11 v40 wr => ∃ k : Nat, k ≤ pin.size ∧ v40 = .int .i64 k ∧ Aside0 (Kd.R (Kd.int .u8) 5 wr w.heap.size (fun k => k ≠ w.heap.size ∧ k ≠ g) v9 ([3, (pin.size : Int)] ++ (dgs pin).take k)) ∧ Aside0 (CV wr g (bI pin)) ∧ Aside0 (wr.heap[w.heap.size]? = some (.cells #[.int .i64 0, .slice none 0 0, .int .i64 0] 38)) ∧ Aside0 (Below w.heap.size w wr))
    (fun _ _ v40 _ => pin.size - (intOf v40).toNat)
  case atStart => exact ⟨0, by omega, rfl, HR, HCV, BK, HB⟩
  case round =>
    clear HR HCV BK HB
    obtain ⟨k, hk, rfl, HO, HC, BK, HB⟩ := hrel
    by_cases hlt : k < pin.size
    · have hcell := HC.out.2 k (by rw [HL.out]; exact hlt)
      have HT1 := Aside0.mk (take_nth (dgs pin) k (by rw [dgs_length]; exact hlt))
      have hgs := HC.out.1
      have hbs := blk_lt BK.out
      have hx0 := allDg_bI HP.out (nth (bI pin) k) (by rw [nth_at _ _ (by rw [HL.out]; exact hlt)]; exact List.getElem_mem _)
      rw [← dgs_at pin k hlt] at HT1
      obtain ⟨x, hx⟩ : ∃ x, x = nth (bI pin) k := ⟨_, rfl⟩
      rw [← hx] at hcell HT1 hx0
      clear hx
      obtain ⟨hx0, hx1⟩ := hx0
      obtain ⟨ac, hac⟩ : ∃ ac, ac = [3, (pin.size : Int)] ++ (dgs pin).take k := ⟨_, rfl⟩
      rw [← hac] at HO
      have HAC := Aside0.mk hac
      have HLn : Aside0 ((ac.length + 1) * 1 ≤ 140737488355328) := ⟨by rw [hac]; simp; omega⟩
      have HF : Aside0 (∀ j, wr.heap.size ≤ j → j ≠ w.heap.size ∧ j ≠ g) := ⟨fun j hj => by omega⟩
      clear hac hbs
      go_wp2_with (first | ((with_reducible refine gate_builtin (b := .append) (xs := #[.tmp 44, .tmp 47]) rfl ?_); at_builtin; go_must (refine Kd.R_append (Kd.int .u8) (w0 := w) w.heap.size rfl (.tmp 44) (.tmp 47) 29 5 (.int .u8 0) 1 rfl Try.underlying29 info5 rfl (by decide) (by omega) u9 ac (x - 48) [.int .u8 (x - 48)] (fun k => k ≠ w.heap.size ∧ k ≠ g) (fun _ => False) rfl rfl ?aP (fun _ hk => hk.elim) ?aF ?aO ?aB ?aS ?aL ?_; (case aP => exact rfl); (case aB => exact HB.out); (case aF => exact HF.out); (case aO => exact HO.out); (case aS => exact HB.out.size); (case aL => exact HLn.out); intro v1 w1 ho hb hg1 hat; have HO1 := Aside0.mk ho; have HB1 := Aside0.mk hb; have HG1 := Aside0.mk hg1; clear ho hb hg1 hat)))
      go_roundw
      case rel => exact ⟨k + 1, by omega, by go_num, ⟨by rw [HT1.out, ← List.append_assoc, ← HAC.out]; exact HO1.out⟩, ⟨HC.out.grown HG1.out (fun h => (HO.out.1 _ h.symm).2 rfl)⟩, ⟨blk_grown BK.out HG1.out (fun h => (HO.out.1 _ h.symm).1 rfl)⟩, HB1⟩
      case measure => simp [intOf]; omega
    · obtain rfl : k = pin.size := by omega
      rw [List.take_of_length_le (by rw [dgs_length]; exact Nat.le_refl _)] at HO
      have hgc := HC.out.1
      clear HC HL hlt hk
      go_wp2_with fail
      have hacc : Aside0 ([3, (pin.size : Int)] ++ dgs pin = 3 :: (pin.size : Int) :: dgs pin) := ⟨rfl⟩
      rw [hacc.out] at HO
      clear hacc
      obtain ⟨w0, hw0⟩ : ∃ w0 : World, w0 = wr := ⟨_, rfl⟩
      have hgw0 : g < w0.heap.size := by rw [hw0]; exact hgc
      have hsw0 := blk_lt BK.out
      rw [← hw0] at HO BK HB hsw0 ⊢
      clear hw0 hgc
      obtain ⟨x9, hx9⟩ : ∃ x9, x9 = u9 := ⟨_, rfl⟩
      rw [← hx9] at HO ⊢
      clear hx9
      go_loopw [9, 12, 13] (fun v9 v12 v13 wr => ∃ j : Nat, j + pin.size ≤ 14 ∧ v12 = .int .i64 j ∧ w0.heap.size ≤ wr.heap.size ∧ Aside0 (Kd.R (Kd.int .u8) 5 wr w.heap.size (fun k => k ≠ w.heap.size ∧ k ≠ g) v9 (3 :: (pin.size : Int) :: dgs pin ++ fillL dr j)) ∧ Aside0 (wr.heap[w.heap.size]? = some (.cells #[.int .i64 0, .slice none 0 0, .int .i64 0] 38)) ∧ Aside0 (Below w.heap.size w wr))
        (fun v9 _ _ _ => match v9 with | .slice _ n _ => 16 - n | _ => 0)
      case atStart => exact ⟨0, by omega, rfl, Nat.le_refl _, ⟨by simpa [fillL] using HO.out⟩, BK, HB⟩
      case round =>
        clear HO BK HB
        obtain ⟨j, hj, rfl, hws, HO, BK, HB⟩ := hrel
        obtain ⟨ac, hac⟩ : ∃ ac, ac = 3 :: (pin.size : Int) :: dgs pin ++ fillL dr j := ⟨_, rfl⟩
        rw [← hac] at HO
        have hal : ac.length = pin.size + 2 + j := by rw [hac, List.length_append, List.length_cons, List.length_cons, dgs_length, fillL_length dr j (by omega)]; first | done | omega
        have HAC := Aside0.mk hac
        clear hac
        obtain ⟨A9, c9, e9⟩ := Kd.R_slice HO.out
        subst e9
        rw [hal] at HO ⊢
        by_cases hlt : j + pin.size < 14
        · have HLn : Aside0 ((ac.length + 1) * 1 ≤ 140737488355328) := ⟨by omega⟩
          have HF : Aside0 (∀ j, wr.heap.size ≤ j → j ≠ w.heap.size ∧ j ≠ g) := ⟨fun j hj => by omega⟩
          have HAL := Aside0.mk hal
          clear hal
          have c1 : decide (((pin.size + 2 + j : Nat) : Int) < 16) = true := decide_eq_true (by omega)
          have hjd : j < dr.length := by omega
          have c2 : ((j : Int) == (dr.length : Int)) = false := by rw [beq_eq_false_iff_ne]; omega
          obtain ⟨ad, hA, hcell0⟩ := Kd.at_int HDR.out (j : Int) (by omega) (by omega)
          subst hA
          have hcell := (HB.out.cell (World.block_lt_of_cell? w _ hcell0)).trans hcell0
          clear hcell0
          rw [Int.toNat_natCast, rd_nth] at hcell
          obtain ⟨x0, x1⟩ := HDB.out.nth j
          have HFl := Aside0.mk (fillL_snoc dr j hjd)
          obtain ⟨x, hx⟩ : ∃ x, x = nth dr j := ⟨_, rfl⟩
          rw [← hx] at hcell x0 x1 HFl
          clear hx
          have hx6 : (10 + x % 6) % 256 = 10 + x % 6 := by omega
          go_wp2_with (first | ((with_reducible refine gate_builtin (b := .append) (xs := #[.tmp 68, .tmp 70]) rfl ?_); at_builtin; go_must (refine Kd.R_append (Kd.int .u8) (w0 := w) w.heap.size rfl (.tmp 68) (.tmp 70) 29 5 (.int .u8 0) 1 rfl Try.underlying29 info5 rfl (by decide) (by omega) (.slice A9 (pin.size + 2 + j) c9) ac (10 + x % 6) [.int .u8 (10 + x % 6)] (fun k => k ≠ w.heap.size ∧ k ≠ g) (fun _ => False) rfl rfl ?bP (fun _ hk => hk.elim) ?bF ?bO ?bB ?bS ?bL ?_; (case bP => exact rfl); (case bB => exact HB.out); (case bF => exact HF.out); (case bO => exact HO.out); (case bS => exact HB.out.size); (case bL => exact HLn.out); intro v1 w1 ho hb hg1 hat; have HO1 := Aside0.mk ho; have HB1 := Aside0.mk hb; have HG1 := Aside0.mk hg1; clear ho hb hg1 hat)))
          obtain ⟨A1, d1, e1⟩ := Kd.R_slice HO1.out
          have e1' : ac.length + 1 = pin.size + 2 + (j + 1) := by rw [HAL.out]; omega
          rw [List.length_append, List.length_singleton, e1'] at e1
          subst e1
          go_roundw
          case rel => exact ⟨j + 1, by omega, by go_num, Nat.le_trans hws HG1.out.size, ⟨by rw [HFl.out, ← List.append_assoc, ← HAC.out]; exact HO1.out⟩, ⟨blk_grown BK.out HG1.out (fun h => (HO.out.1 _ h.symm).1 rfl)⟩, HB1⟩
          case measure => simp; omega
        · obtain rfl : j = 14 - pin.size := by omega
          rw [← HDS.out] at HAC
          obtain rfl := HAC.out
          have e16 : pin.size + 2 + (14 - pin.size) = 16 := by omega
          rw [e16] at hal HO ⊢
          have DN : Nibs ac := by
            rw [HDS.out]
            refine Nibs.app (fun d hd => ?_) (fun d hd => ?_)
            · rcases List.mem_cons.1 hd with rfl | hd
              · omega
              · rcases List.mem_cons.1 hd with rfl | hd
                · omega
                · exact (HexOf.dig HP.out).2 d hd
            · exact fillL_nibs dr HDB.out _ d hd
          obtain ⟨P1, P2, P3⟩ := LQ.pin_pack ac pan hal DN HQ.out q13
          rw [← HCS.out] at P1
          have hcl : cs.length = 8 := by rw [HCS.out, pinBlk, xorL_length _ _ (by rw [outN_length _ _ (by omega), outN_length _ _ (by omega)]; exact Nat.le_refl _), outN_length _ _ (by omega)]
          have hal2 := accD_length pan q13
          obtain ⟨X, hX⟩ : ∃ X, X = xorL ac (accD pan) := ⟨_, rfl⟩
          have K46 : Aside0 (∀ w, Calls Try.prog 46 #[.string pan] w fun e w' => ∃ v : Value, e = .returned v ∧ Kd.R (Kd.int .u8) 5 w' w.heap.size (fun _ => True) v (accD pan) ∧ Below w.heap.size w w') := ⟨fun w => by rw [← LQ.accS_eq pan HQ.out]; exact spec_l4Account.at pan w q13 (by omega)⟩
          have K45 : Aside0 (∀ (A : Option Addr) (c : Nat) (A' : Option Addr) (c' : Nat) (w : World), Kd.C (Kd.int .u8) w A 16 ac → 16 ≤ c → Kd.C (Kd.int .u8) w A' 16 (accD pan) → 16 ≤ c' → Calls Try.prog 45 #[.slice A 16 c, .slice A' 16 c'] w fun e w' => ∃ v : Value, e = .returned v ∧ Kd.R (Kd.int .u8) 5 w' w.heap.size (fun _ => True) v X ∧ Below w.heap.size w w') := ⟨fun A c A' c' w h1 h2 h3 h4 => by
            have := LQ.spec_l1Xor.calls 40 A c ac A' c' (accD pan) X w (by rw [hal]; exact h1) (by rw [hal]; exact h2) (by rw [hal2]; exact h3) (by rw [hal2]; exact h4) (by rw [hX]; exact LQ.xor_eq ac (accD pan) (by omega) (by omega) 40 (by omega))
            rw [hal, hal2] at this
            exact this⟩
          have K54 : Aside0 (∀ (A : Option Addr) (c : Nat) (w : World), Kd.C (Kd.int .u8) w A 16 X → 16 ≤ c → Calls Try.prog 54 #[.slice A 16 c] w fun e w' => ∃ v : Value, e = .returned v ∧ Kd.R (Kd.int .u8) 5 w' w.heap.size (fun _ => True) v cs ∧ Below w.heap.size w w') := ⟨fun A c w h1 h2 => by
            have := LQ.spec_l4Pack.calls 40 A c X cs w (by rw [hX, P3]; rw [hX] at h1; exact h1) (by rw [hX, P3]; exact h2) (by rw [hX, ← P1]; exact LQ.pack_eq _ P3 P2 40 (by omega))
            rw [show X.length = 16 by rw [hX]; exact P3] at this
            exact this⟩
          have hXl : X.length = 16 := by rw [hX]; exact P3
          have HCo := Aside0.mk (Kd.R_reads' HO.out)
          rw [hal] at HCo
          have HAL2 := Aside0.mk hal2
          have HXL := Aside0.mk hXl
          have HCL := Aside0.mk hcl
          clear P1 P2 P3 hX hXl hal2 hal DN hcl HO
          go_wp2_with fail
          with_reducible refine (K46.out _).mono ?_
          rintro e w3 ⟨v3, rfl, ho3, hb3⟩
          obtain ⟨Aa, ca, rfl⟩ := Kd.R_slice ho3
          have HA := Aside0.mk (Kd.R_reads' ho3)
          have HC3 := Aside0.mk (Kd.C_below HCo.out.2.2 hb3)
          have BK3 := Aside0.mk (blk_below BK.out hb3)
          have HB3 := Aside0.mk (below_step HB.out hb3)
          rw [HAL2.out] at HA ⊢
          clear ho3 hb3
          go_wp2_with fail
          with_reducible refine (K45.out _ _ _ _ _ HC3.out HCo.out.2.1 HA.out.2.2 HA.out.2.1).mono ?_
          rintro e w4 ⟨v4, rfl, ho4, hb4⟩
          obtain ⟨Ab, cb, rfl⟩ := Kd.R_slice ho4
          have HX4 := Aside0.mk (Kd.R_reads' ho4)
          have BK4 := Aside0.mk (blk_below BK3.out hb4)
          have HB4 := Aside0.mk (below_step HB3.out hb4)
          rw [HXL.out] at HX4 ⊢
          clear ho4 hb4
          go_wp2_with fail
          with_reducible refine (K54.out _ _ _ HX4.out.2.2 HX4.out.2.1).mono ?_
          rintro e w5 ⟨v5, rfl, ho5, hb5⟩
          obtain ⟨Ac, cc, rfl⟩ := Kd.R_slice ho5
          have HR5 := Aside0.mk (Kd.R_lower ho5 HB4.out.size)
          have BK5 := Aside0.mk (blk_below BK4.out hb5)
          have HB5 := Aside0.mk (below_step HB4.out hb5)
          clear ho5 hb5
          have z0 : w5.cell? ⟨w.heap.size, 0, none⟩ = some (.int .i64 0) := (blk_cell BK5.out 0).trans rfl
          have z1 : w5.cell? ⟨w.heap.size, 1, none⟩ = some (.slice none 0 0) := (blk_cell BK5.out 1).trans rfl
          have z2 : w5.cell? ⟨w.heap.size, 2, none⟩ = some (.int .i64 0) := (blk_cell BK5.out 2).trans rfl
          have f0 := blk_frozen BK5.out 0
          have f1 := blk_frozen BK5.out 1
          have f2 := blk_frozen BK5.out 2
          go_wp2
          refine bodyPost_ret (results_cell_row rfl _ _ w.heap.size 38 _ (0, 0) _ rfl (blk_set (blk_set (blk_set BK5.out _ _) _ _) _ _) Try.underlying38 rfl infoPB) rfl ⟨_, rfl, ?_, ((HB5.out.setCell (p := ⟨w.heap.size, 0, none⟩) (Nat.le_refl _) _).setCell (p := ⟨w.heap.size, 1, none⟩) (Nat.le_refl _) _).setCell (p := ⟨w.heap.size, 2, none⟩) (Nat.le_refl _) _⟩
          exact Kd.R_set (Kd.R_set (Kd.R_set HR5.out BK5.out (by decide) 0 _) (blk_set BK5.out 0 _) (by decide) 1 _) (blk_set (blk_set BK5.out 0 _) 1 _) (by decide) 2 _
set_option maxHeartbeats 4000000 in
set_option maxRecDepth 100000 in
theorem spec_MakePin.f3s (pin pan : ByteArray) (A3 : Option Addr) (dr : List Int) (c3 : Nat) (w : World) (hdr : Kd.C (Kd.int .u8) w A3 dr.length dr) (hdb : Bytes dr) (hdl : dr.length < 14 - pin.size) (h1 : digOk pin 4 12 = true) (h2 : digOk pan 13 19 = true) (p4 : 4 ≤ pin.size) (p12 : pin.size ≤ 12) (q19 : pan.size ≤ 19) (hpd : allDg pin = true) :
    Calls Try.prog 19 #[.int .i64 3, .string pin, .string pan, .slice A3 dr.length c3] w fun e w' => e = .returned (.agg #[.int .i64 2, .slice none 0 0, .int .i64 0]) ∧ Below w.heap.size w w' := by
  have K1 : Aside0 (∀ w, Calls Try.prog 53 #[.string pin, .int .i64 4, .int .i64 12] w fun e w' => e = .returned (.bool true) ∧ Drawn0 w w') := ⟨fun w => by rw [← h1]; exact LQ.spec_l4Digits.calls 40 pin 4 12 _ w (LQ.digits_eq pin 4 12 (by omega) 40 (by omega))⟩
  have K2 : Aside0 (∀ w, Calls Try.prog 44 #[.string pan] w fun e w' => e = .returned (.bool true) ∧ Drawn0 w w') := ⟨fun w => by rw [← h2]; exact LQ.spec_l4GoodPan.calls 40 pan _ w (LQ.goodPan_eq pan (by omega) 40 (by omega))⟩
  have HP := Aside0.mk hpd
  have HDR := Aside0.mk hdr
  have HDB := Aside0.mk hdb
  clear h1 h2 hpd hdr hdb
  have hcv := fun (W : World) => conv_run W pin
  have hn256 : (pin.size : Int) % 256 = (pin.size : Int) := by omega
  go_enter Try.func19, Try.ntmps19
  go_wp2_with fail
  with_reducible refine (K1.out _).mono ?_
  rintro e w1 ⟨rfl, hd1⟩
  go_wp2_with fail
  with_reducible refine (K2.out _).mono ?_
  rintro e w2 ⟨rfl, hd2⟩
  go_wp2_with fail
  obtain ⟨W0, hW0⟩ : ∃ W0, W0 = w2.alloc (.cells #[.int .u8 3, .int .u8 (pin.size : Int)] 5) := ⟨_, rfl⟩
  have BK0 : Aside0 (W0.heap[w.heap.size]? = some (.cells #[.int .i64 0, .slice none 0 0, .int .i64 0] 38)) := ⟨by rw [hW0]; exact blk_alloc (blk_below (blk_below (blk_new w _) hd1.below) hd2.below) _⟩
  have HB2 : Aside0 (Below w.heap.size w w2) := ⟨below_step (below_step ((Below.refl _ _).alloc (Nat.le_refl _) _) hd1.below) hd2.below⟩
  have HB0 : Aside0 (Below w.heap.size w W0) := ⟨by rw [hW0]; exact HB2.out.alloc HB2.out.size _⟩
  have HR0 : Aside0 (Blk W0 w2.heap.size .u8 5 [3, (pin.size : Int)]) := ⟨by rw [hW0]; exact blk_new w2 _⟩
  have hg0 : W0.heap.size = w2.heap.size + 1 := by rw [hW0]; simp
  have hgw : w.heap.size < w2.heap.size := blk_lt (blk_below (blk_below (blk_new w (.cells #[.int .i64 0, .slice none 0 0, .int .i64 0] 38)) hd1.below) hd2.below)
  rw [← hW0]
  clear hW0 hd1 hd2
  have HCV := Aside0.mk (CV.new W0 pin)
  have HB := Aside0.mk (bytesWorld_below 5 pin HB0.out HB0.out.size)
  have HBL := Aside0.mk (bytesWorld_below (B := W0.heap.size) 5 pin (Below.refl _ W0) (Nat.le_refl _))
  have BK := Aside0.mk (blk_below BK0.out HBL.out)
  have HR : Aside0 (Kd.R (Kd.int .u8) 5 (Lib.bytesWorld W0 5 pin) w.heap.size (fun k => k ≠ w.heap.size ∧ k ≠ w2.heap.size + 1) (.slice (some ⟨w2.heap.size, 0, none⟩) 2 2) [3, (pin.size : Int)]) :=
    ⟨Kd.R_reok rfl ((HR0.out.below HBL.out).R (n := 2) HB2.out.size rfl (by omega)) (fun k hk => by simp [Value.ownBlock] at hk; omega)⟩
  rw [hg0] at HCV
  generalize Lib.bytesWorld W0 5 pin = W at HCV HB BK HR ⊢
  obtain ⟨g, hg⟩ : ∃ g, g = w2.heap.size + 1 := ⟨_, rfl⟩
  obtain ⟨C, hC⟩ : ∃ C, C = grownCap W0 pin.size 0 5 := ⟨_, rfl⟩
  rw [← hg] at HCV HR ⊢
  rw [← hC]
  obtain ⟨z2, hz2⟩ : ∃ z2, z2 = w2.heap.size := ⟨_, rfl⟩
  rw [← hz2] at HR ⊢
  clear hg hC HB0 HB2 BK0 HR0 HBL hcv hgw hg0 hz2
  have HL := Aside0.mk (bI_length pin)
  go_loopw [9, 11, 40] (fun v9 v11 v40 wr => ∃ k : Nat, k ≤ pin.size ∧ v40 = .int .i64 k ∧ Aside0 (Kd.R (Kd.int .u8) 5 wr w.heap.size (fun k => k ≠ w.heap.size ∧ k ≠ g) v9 ([3, (pin.size : Int)] ++ (dgs pin).take k)) ∧ Aside0 (CV wr g (bI pin)) ∧ Aside0 (wr.heap[w.heap.size]? = some (.cells #[.int .i64 0, .slice none 0 0, .int .i64 0] 38)) ∧ Aside0 (Below w.heap.size w wr))
    (fun _ _ v40 _ => pin.size - (intOf v40).toNat)
  case atStart => exact ⟨0, by omega, rfl, HR, HCV, BK, HB⟩
  case round =>
    clear HR HCV BK HB
    obtain ⟨k, hk, rfl, HO, HC, BK, HB⟩ := hrel
    by_cases hlt : k < pin.size
    · have hcell := HC.out.2 k (by rw [HL.out]; exact hlt)
      have HT1 := Aside0.mk (take_nth (dgs pin) k (by rw [dgs_length]; exact hlt))
      have hgs := HC.out.1
      have hbs := blk_lt BK.out
      have hx0 := allDg_bI HP.out (nth (bI pin) k) (by rw [nth_at _ _ (by rw [HL.out]; exact hlt)]; exact List.getElem_mem _)
      rw [← dgs_at pin k hlt] at HT1
      obtain ⟨x, hx⟩ : ∃ x, x = nth (bI pin) k := ⟨_, rfl⟩
      rw [← hx] at hcell HT1 hx0
      clear hx
      obtain ⟨hx0, hx1⟩ := hx0
      obtain ⟨ac, hac⟩ : ∃ ac, ac = [3, (pin.size : Int)] ++ (dgs pin).take k := ⟨_, rfl⟩
      rw [← hac] at HO
      have HAC := Aside0.mk hac
      have HLn : Aside0 ((ac.length + 1) * 1 ≤ 140737488355328) := ⟨by rw [hac]; simp; omega⟩
      have HF : Aside0 (∀ j, wr.heap.size ≤ j → j ≠ w.heap.size ∧ j ≠ g) := ⟨fun j hj => by omega⟩
      clear hac hbs
      go_wp2_with (first | ((with_reducible refine gate_builtin (b := .append) (xs := #[.tmp 44, .tmp 47]) rfl ?_); at_builtin; go_must (refine Kd.R_append (Kd.int .u8) (w0 := w) w.heap.size rfl (.tmp 44) (.tmp 47) 29 5 (.int .u8 0) 1 rfl Try.underlying29 info5 rfl (by decide) (by omega) u9 ac (x - 48) [.int .u8 (x - 48)] (fun k => k ≠ w.heap.size ∧ k ≠ g) (fun _ => False) rfl rfl ?aP (fun _ hk => hk.elim) ?aF ?aO ?aB ?aS ?aL ?_; (case aP => exact rfl); (case aB => exact HB.out); (case aF => exact HF.out); (case aO => exact HO.out); (case aS => exact HB.out.size); (case aL => exact HLn.out); intro v1 w1 ho hb hg1 hat; have HO1 := Aside0.mk ho; have HB1 := Aside0.mk hb; have HG1 := Aside0.mk hg1; clear ho hb hg1 hat)))
      go_roundw
      case rel => exact ⟨k + 1, by omega, by go_num, ⟨by rw [HT1.out, ← List.append_assoc, ← HAC.out]; exact HO1.out⟩, ⟨HC.out.grown HG1.out (fun h => (HO.out.1 _ h.symm).2 rfl)⟩, ⟨blk_grown BK.out HG1.out (fun h => (HO.out.1 _ h.symm).1 rfl)⟩, HB1⟩
      case measure => simp [intOf]; omega
    · obtain rfl : k = pin.size := by omega
      rw [List.take_of_length_le (by rw [dgs_length]; exact Nat.le_refl _)] at HO
      have hgc := HC.out.1
      clear HC HL hlt hk
      go_wp2_with fail
      have hacc : Aside0 ([3, (pin.size : Int)] ++ dgs pin = 3 :: (pin.size : Int) :: dgs pin) := ⟨rfl⟩
      rw [hacc.out] at HO
      clear hacc
      obtain ⟨w0, hw0⟩ : ∃ w0 : World, w0 = wr := ⟨_, rfl⟩
      have hgw0 : g < w0.heap.size := by rw [hw0]; exact hgc
      have hsw0 := blk_lt BK.out
      rw [← hw0] at HO BK HB hsw0 ⊢
      clear hw0 hgc
      obtain ⟨x9, hx9⟩ : ∃ x9, x9 = u9 := ⟨_, rfl⟩
      rw [← hx9] at HO ⊢
      clear hx9
      go_loopw [9, 12, 13] (fun v9 v12 v13 wr => ∃ j : Nat, j ≤ dr.length ∧ v12 = .int .i64 j ∧ w0.heap.size ≤ wr.heap.size ∧ Aside0 (Kd.R (Kd.int .u8) 5 wr w.heap.size (fun k => k ≠ w.heap.size ∧ k ≠ g) v9 (3 :: (pin.size : Int) :: dgs pin ++ fillL dr j)) ∧ Aside0 (wr.heap[w.heap.size]? = some (.cells #[.int .i64 0, .slice none 0 0, .int .i64 0] 38)) ∧ Aside0 (Below w.heap.size w wr))
        (fun v9 _ _ _ => match v9 with | .slice _ n _ => 16 - n | _ => 0)
      case atStart => exact ⟨0, by omega, rfl, Nat.le_refl _, ⟨by simpa [fillL] using HO.out⟩, BK, HB⟩
      case round =>
        clear HO BK HB
        obtain ⟨j, hj, rfl, hws, HO, BK, HB⟩ := hrel
        obtain ⟨ac, hac⟩ : ∃ ac, ac = 3 :: (pin.size : Int) :: dgs pin ++ fillL dr j := ⟨_, rfl⟩
        rw [← hac] at HO
        have hal : ac.length = pin.size + 2 + j := by rw [hac, List.length_append, List.length_cons, List.length_cons, dgs_length, fillL_length dr j (by omega)]; first | done | omega
        have HAC := Aside0.mk hac
        clear hac
        obtain ⟨A9, c9, e9⟩ := Kd.R_slice HO.out
        subst e9
        rw [hal] at HO ⊢
        by_cases hjd : j < dr.length
        · have HLn : Aside0 ((ac.length + 1) * 1 ≤ 140737488355328) := ⟨by omega⟩
          have HF : Aside0 (∀ j, wr.heap.size ≤ j → j ≠ w.heap.size ∧ j ≠ g) := ⟨fun j hj => by omega⟩
          have HAL := Aside0.mk hal
          clear hal
          have c1 : decide (((pin.size + 2 + j : Nat) : Int) < 16) = true := decide_eq_true (by omega)
          have c2 : ((j : Int) == (dr.length : Int)) = false := by rw [beq_eq_false_iff_ne]; omega
          obtain ⟨ad, hA, hcell0⟩ := Kd.at_int HDR.out (j : Int) (by omega) (by omega)
          subst hA
          have hcell := (HB.out.cell (World.block_lt_of_cell? w _ hcell0)).trans hcell0
          clear hcell0
          rw [Int.toNat_natCast, rd_nth] at hcell
          obtain ⟨x0, x1⟩ := HDB.out.nth j
          have HFl := Aside0.mk (fillL_snoc dr j hjd)
          obtain ⟨x, hx⟩ : ∃ x, x = nth dr j := ⟨_, rfl⟩
          rw [← hx] at hcell x0 x1 HFl
          clear hx
          have hx6 : (10 + x % 6) % 256 = 10 + x % 6 := by omega
          go_wp2_with (first | ((with_reducible refine gate_builtin (b := .append) (xs := #[.tmp 68, .tmp 70]) rfl ?_); at_builtin; go_must (refine Kd.R_append (Kd.int .u8) (w0 := w) w.heap.size rfl (.tmp 68) (.tmp 70) 29 5 (.int .u8 0) 1 rfl Try.underlying29 info5 rfl (by decide) (by omega) (.slice A9 (pin.size + 2 + j) c9) ac (10 + x % 6) [.int .u8 (10 + x % 6)] (fun k => k ≠ w.heap.size ∧ k ≠ g) (fun _ => False) rfl rfl ?bP (fun _ hk => hk.elim) ?bF ?bO ?bB ?bS ?bL ?_; (case bP => exact rfl); (case bB => exact HB.out); (case bF => exact HF.out); (case bO => exact HO.out); (case bS => exact HB.out.size); (case bL => exact HLn.out); intro v1 w1 ho hb hg1 hat; have HO1 := Aside0.mk ho; have HB1 := Aside0.mk hb; have HG1 := Aside0.mk hg1; clear ho hb hg1 hat)))
          obtain ⟨A1, d1, e1⟩ := Kd.R_slice HO1.out
          have e1' : ac.length + 1 = pin.size + 2 + (j + 1) := by rw [HAL.out]; omega
          rw [List.length_append, List.length_singleton, e1'] at e1
          subst e1
          go_roundw
          case rel => exact ⟨j + 1, by omega, by go_num, Nat.le_trans hws HG1.out.size, ⟨by rw [HFl.out, ← List.append_assoc, ← HAC.out]; exact HO1.out⟩, ⟨blk_grown BK.out HG1.out (fun h => (HO.out.1 _ h.symm).1 rfl)⟩, HB1⟩
          case measure => simp; omega
        · obtain rfl : j = dr.length := by omega
          have c1 : decide (((pin.size + 2 + dr.length : Nat) : Int) < 16) = true := decide_eq_true (by omega)
          have c2 : ((dr.length : Int) == (dr.length : Int)) = true := by rw [beq_iff_eq]
          have z0 : wr.cell? ⟨w.heap.size, 0, none⟩ = some (.int .i64 0) := (blk_cell BK.out 0).trans rfl
          have z1 : wr.cell? ⟨w.heap.size, 1, none⟩ = some (.slice none 0 0) := (blk_cell BK.out 1).trans rfl
          have z2 : wr.cell? ⟨w.heap.size, 2, none⟩ = some (.int .i64 0) := (blk_cell BK.out 2).trans rfl
          have f0 := blk_frozen BK.out 0
          have f1 := blk_frozen BK.out 1
          have f2 := blk_frozen BK.out 2
          clear HO hal
          go_wp2
          exact bodyPost_ret (results_cell_row rfl _ _ w.heap.size 38 _ (0, 0) _ rfl (blk_set (blk_set (blk_set BK.out _ _) _ _) _ _) Try.underlying38 rfl infoPB) rfl ⟨rfl, ((HB.out.setCell (p := ⟨w.heap.size, 0, none⟩) (Nat.le_refl _) _).setCell (p := ⟨w.heap.size, 1, none⟩) (Nat.le_refl _) _).setCell (p := ⟨w.heap.size, 2, none⟩) (Nat.le_refl _) _⟩
set_option maxHeartbeats 4000000 in
set_option maxRecDepth 100000 in
theorem spec_MakePin.bad0 (f : Int) (pin pan : ByteArray) (A3 : Option Addr) (n3 c3 : Nat) (w : World) (h0 : f ≠ 0) (h3 : f ≠ 3) :
    Calls Try.prog 19 #[.int .i64 f, .string pin, .string pan, .slice A3 n3 c3] w fun e w' => e = .returned (.agg #[.int .i64 1, .slice none 0 0, .int .i64 0]) ∧ Below w.heap.size w w' := by
  have c0 : (f != 0) = true := by rw [bne_iff_ne]; exact h0
  have c3 : (f != 3) = true := by rw [bne_iff_ne]; exact h3
  clear h0 h3
  go_enter Try.func19, Try.ntmps19
  go_wp2_with fail
  refine bodyPost_ret (results_cell_row rfl _ _ w.heap.size 38 _ (0, 0) _ rfl (blk_new w _) Try.underlying38 rfl infoPB) rfl ⟨rfl, (Below.refl _ _).alloc (Nat.le_refl _) _⟩
set_option maxHeartbeats 4000000 in
set_option maxRecDepth 100000 in
theorem spec_MakePin.bad1 (f : Int) (hf : f = 0 ∨ f = 3) (pin pan : ByteArray) (A3 : Option Addr) (n3 c3 : Nat) (w : World) (hp : pin.size ≤ 1000000000) (h1 : digOk pin 4 12 = false) :
    Calls Try.prog 19 #[.int .i64 f, .string pin, .string pan, .slice A3 n3 c3] w fun e w' => e = .returned (.agg #[.int .i64 1, .slice none 0 0, .int .i64 0]) ∧ Below w.heap.size w w' := by
  have K1 : Aside0 (∀ w, Calls Try.prog 53 #[.string pin, .int .i64 4, .int .i64 12] w fun e w' => e = .returned (.bool false) ∧ Drawn0 w w') := ⟨fun w => by rw [← h1]; exact LQ.spec_l4Digits.calls (pin.size + 2) pin 4 12 _ w (LQ.digits_eq pin 4 12 (by omega) _ (by omega))⟩
  clear h1
  have BK : Aside0 ((w.alloc (.cells #[.int .i64 0, .slice none 0 0, .int .i64 0] 38)).heap[w.heap.size]? = some (.cells #[.int .i64 0, .slice none 0 0, .int .i64 0] 38)) := ⟨blk_new w _⟩
  have HB : Aside0 (Below w.heap.size w (w.alloc (.cells #[.int .i64 0, .slice none 0 0, .int .i64 0] 38))) := ⟨(Below.refl _ _).alloc (Nat.le_refl _) _⟩
  rcases hf with rfl | rfl
  all_goals
    go_enter Try.func19, Try.ntmps19
    go_wp2_with fail
    with_reducible refine (K1.out _).mono ?_
    rintro e wX ⟨rfl, hb1⟩
    replace hb1 := hb1.below
    have BK1 := Aside0.mk (blk_below BK.out hb1)
    have HB1 := Aside0.mk (below_step HB.out hb1)
    clear hb1
    have z0 : wX.cell? ⟨w.heap.size, 0, none⟩ = some (.int .i64 0) := (blk_cell BK1.out 0).trans rfl
    have z1 : wX.cell? ⟨w.heap.size, 1, none⟩ = some (.slice none 0 0) := (blk_cell BK1.out 1).trans rfl
    have z2 : wX.cell? ⟨w.heap.size, 2, none⟩ = some (.int .i64 0) := (blk_cell BK1.out 2).trans rfl
    have f0 := blk_frozen BK1.out 0
    have f1 := blk_frozen BK1.out 1
    have f2 := blk_frozen BK1.out 2
    go_wp2
    exact bodyPost_ret (results_cell_row rfl _ _ w.heap.size 38 _ (0, 0) _ rfl (blk_set (blk_set (blk_set BK1.out _ _) _ _) _ _) Try.underlying38 rfl infoPB) rfl ⟨rfl, ((HB1.out.setCell (p := ⟨w.heap.size, 0, none⟩) (Nat.le_refl _) _).setCell (p := ⟨w.heap.size, 1, none⟩) (Nat.le_refl _) _).setCell (p := ⟨w.heap.size, 2, none⟩) (Nat.le_refl _) _⟩
set_option maxHeartbeats 4000000 in
set_option maxRecDepth 100000 in
theorem spec_MakePin.bad2 (f : Int) (hf : f = 0 ∨ f = 3) (pin pan : ByteArray) (A3 : Option Addr) (n3 c3 : Nat) (w : World) (hp : pin.size ≤ 1000000000) (hq : pan.size ≤ 1000000000) (h1 : digOk pin 4 12 = true) (h2 : digOk pan 13 19 = false) :
    Calls Try.prog 19 #[.int .i64 f, .string pin, .string pan, .slice A3 n3 c3] w fun e w' => e = .returned (.agg #[.int .i64 1, .slice none 0 0, .int .i64 0]) ∧ Below w.heap.size w w' := by
  have K1 : Aside0 (∀ w, Calls Try.prog 53 #[.string pin, .int .i64 4, .int .i64 12] w fun e w' => e = .returned (.bool true) ∧ Drawn0 w w') := ⟨fun w => by rw [← h1]; exact LQ.spec_l4Digits.calls (pin.size + 2) pin 4 12 _ w (LQ.digits_eq pin 4 12 (by omega) _ (by omega))⟩
  have K2 : Aside0 (∀ w, Calls Try.prog 44 #[.string pan] w fun e w' => e = .returned (.bool false) ∧ Drawn0 w w') := ⟨fun w => by rw [← h2]; exact LQ.spec_l4GoodPan.calls (pan.size + 2) pan _ w (LQ.goodPan_eq pan (by omega) _ (by omega))⟩
  clear h1 h2
  have BK : Aside0 ((w.alloc (.cells #[.int .i64 0, .slice none 0 0, .int .i64 0] 38)).heap[w.heap.size]? = some (.cells #[.int .i64 0, .slice none 0 0, .int .i64 0] 38)) := ⟨blk_new w _⟩
  have HB : Aside0 (Below w.heap.size w (w.alloc (.cells #[.int .i64 0, .slice none 0 0, .int .i64 0] 38))) := ⟨(Below.refl _ _).alloc (Nat.le_refl _) _⟩
  rcases hf with rfl | rfl
  all_goals
    go_enter Try.func19, Try.ntmps19
    go_wp2_with fail
    with_reducible refine (K1.out _).mono ?_
    rintro e w1 ⟨rfl, hb1⟩
    replace hb1 := hb1.below
    have BK0 := Aside0.mk (blk_below BK.out hb1)
    have HB0 := Aside0.mk (below_step HB.out hb1)
    clear hb1
    go_wp2_with fail
    with_reducible refine (K2.out _).mono ?_
    rintro e wX ⟨rfl, hb1⟩
    replace hb1 := hb1.below
    have BK1 := Aside0.mk (blk_below BK0.out hb1)
    have HB1 := Aside0.mk (below_step HB0.out hb1)
    clear hb1
    have z0 : wX.cell? ⟨w.heap.size, 0, none⟩ = some (.int .i64 0) := (blk_cell BK1.out 0).trans rfl
    have z1 : wX.cell? ⟨w.heap.size, 1, none⟩ = some (.slice none 0 0) := (blk_cell BK1.out 1).trans rfl
    have z2 : wX.cell? ⟨w.heap.size, 2, none⟩ = some (.int .i64 0) := (blk_cell BK1.out 2).trans rfl
    have f0 := blk_frozen BK1.out 0
    have f1 := blk_frozen BK1.out 1
    have f2 := blk_frozen BK1.out 2
    go_wp2
    exact bodyPost_ret (results_cell_row rfl _ _ w.heap.size 38 _ (0, 0) _ rfl (blk_set (blk_set (blk_set BK1.out _ _) _ _) _ _) Try.underlying38 rfl infoPB) rfl ⟨rfl, ((HB1.out.setCell (p := ⟨w.heap.size, 0, none⟩) (Nat.le_refl _) _).setCell (p := ⟨w.heap.size, 1, none⟩) (Nat.le_refl _) _).setCell (p := ⟨w.heap.size, 2, none⟩) (Nat.le_refl _) _⟩
end Go.Proofs.Ytiejallnkgllnaa
namespace Go.Proofs.Ytiejallnkgllnaa
open Go.RowKit Go.Proofs.YtiejallnkgllnaaW.PrintWords Go.Proofs.YtiejallnkgllnaaW.PrintLast Go.Proofs.YtiejallnkgllnaaW.PrintMore Go.Proofs.Ytiejallnkgllnaa.D
set_option linter.unusedVariables false
def bytesB (l : List Int) : Bool := l.all fun x => decide (0 ≤ x) && decide (x ≤ 255)
theorem bytesB_of {l : List Int} (h : bytesB l = true) : Bytes l := fun x hx => by
  have := List.all_eq_true.1 h x hx
  simp only [Bool.and_eq_true, decide_eq_true_eq] at this
  exact this
theorem bytesB_mk {l : List Int} (h : Bytes l) : bytesB l = true := List.all_eq_true.2 fun x hx => by
  have := h x hx
  simp only [Bool.and_eq_true, decide_eq_true_eq]
  exact this
theorem digOk_of {s : ByteArray} {lo hi : Int} (h : digOk s lo hi = true) : allDg s = true ∧ lo ≤ (s.size : Int) ∧ (s.size : Int) ≤ hi := by
  simp only [digOk, Bool.and_eq_true, decide_eq_true_eq] at h
  exact h
def mpOk (f : Int) (pin pan : ByteArray) : Bool := (decide (f = 0) || decide (f = 3)) && (digOk pin 4 12 && digOk pan 13 19)
/-- A PIN block: its code, its bytes, the draws that it took. -/
def mpR (f : Int) (pin pan : ByteArray) (dr : List Int) : Int × List Int × Int :=
  if mpOk f pin pan = true then
    if f = 0 then (0, pinBlk (0 :: (pin.size : Int) :: dgs pin ++ List.replicate (14 - pin.size) 15) pan, 0)
    else if dr.length < 14 - pin.size then (2, [], 0)
    else (0, pinBlk (3 :: (pin.size : Int) :: dgs pin ++ fillL dr (14 - pin.size)) pan, ((14 - pin.size : Nat) : Int))
  else (1, [], 0)
def spec_MakePin.f (a0 : Int) (a1 a2 : ByteArray) (l3 : List Int) : Option (Int × List Int × Int) := if a1.size ≤ 1000000000 ∧ a2.size ≤ 1000000000 ∧ bytesB l3 = true then some (mpR a0 a1 a2 l3) else none
def impl_MakePin.f (a0 : Int) (a1 a2 : ByteArray) (l3 : List Int) : Option (Int × List Int × Int) := if a1.size ≤ 1000000000 ∧ a2.size ≤ 1000000000 ∧ bytesB l3 = true then some (mpR a0 a1 a2 l3) else none
theorem ite_some {p : Prop} [Decidable p] {α : Type} {a b : α} (h : (if p then some a else none) = some b) : p ∧ a = b := by
  by_cases hp : p
  · rw [if_pos hp] at h; exact ⟨hp, Option.some.inj h⟩
  · rw [if_neg hp] at h; cases h
theorem spec_MakePin.calls (a0 : Int) (a1 a2 : ByteArray) (A3 : Option Addr) (c3 : Nat) (l3 : List Int) (r1 : Int) (r2 : List Int) (r3 : Int) (w : World) (hr3 : Kd.C (Kd.int .u8) w A3 l3.length l3) (hc3 : l3.length ≤ c3) (h : spec_MakePin.f a0 a1 a2 l3 = some (r1, r2, r3)) :
    Calls Try.prog 19 #[.int .i64 a0, .string a1, .string a2, .slice A3 l3.length c3] w fun e w' => ∃ v0_ : Value, e = .returned (.agg #[.int .i64 r1, v0_, .int .i64 r3]) ∧ Kd.R (Kd.int .u8) 5 w' w.heap.size (fun _ => True) v0_ r2 ∧ Below w.heap.size w w' := by
  obtain ⟨⟨hs1, hs2, hb⟩, hr⟩ := ite_some h
  have hB := bytesB_of hb
  have bad : ∀ {q}, q = (1, [], 0) → q = (r1, r2, r3) → (Calls Try.prog 19 #[.int .i64 a0, .string a1, .string a2, .slice A3 l3.length c3] w fun e w' => e = .returned (.agg #[.int .i64 1, .slice none 0 0, .int .i64 0]) ∧ Below w.heap.size w w') → Calls Try.prog 19 #[.int .i64 a0, .string a1, .string a2, .slice A3 l3.length c3] w fun e w' => ∃ v0_ : Value, e = .returned (.agg #[.int .i64 r1, v0_, .int .i64 r3]) ∧ Kd.R (Kd.int .u8) 5 w' w.heap.size (fun _ => True) v0_ r2 ∧ Below w.heap.size w w' := by
    intro q h1 h2 hc
    rw [h1] at h2
    simp only [Prod.mk.injEq] at h2
    obtain ⟨rfl, rfl, rfl⟩ := h2
    exact hc.mono fun e w' ⟨he, hw⟩ => ⟨_, he, Kd.R_nil _ _ _ _ _, hw⟩
  unfold mpR at hr
  by_cases hok : mpOk a0 a1 a2 = true
  · rw [if_pos hok] at hr
    simp only [mpOk, Bool.and_eq_true, Bool.or_eq_true, decide_eq_true_eq] at hok
    obtain ⟨hf, h1, h2⟩ := hok
    obtain ⟨d1, l1, u1⟩ := digOk_of h1
    obtain ⟨d2, l2, u2⟩ := digOk_of h2
    by_cases h0 : a0 = 0
    · subst h0
      rw [if_pos rfl] at hr
      simp only [Prod.mk.injEq] at hr
      obtain ⟨rfl, rfl, rfl⟩ := hr
      exact spec_MakePin.f0 a1 a2 A3 l3.length c3 w h1 h2 (by omega) (by omega) (by omega) (by omega) d1 d2
    · obtain rfl : a0 = 3 := by omega
      rw [if_neg h0] at hr
      by_cases hd : l3.length < 14 - a1.size
      · rw [if_pos hd] at hr
        simp only [Prod.mk.injEq] at hr
        obtain ⟨rfl, rfl, rfl⟩ := hr
        exact (spec_MakePin.f3s a1 a2 A3 l3 c3 w hr3 hB hd h1 h2 (by omega) (by omega) (by omega) d1).mono fun e w' ⟨he, hw⟩ => ⟨_, he, Kd.R_nil _ _ _ _ _, hw⟩
      · rw [if_neg hd] at hr
        simp only [Prod.mk.injEq] at hr
        obtain ⟨rfl, rfl, rfl⟩ := hr
        exact spec_MakePin.f3 a1 a2 A3 l3 c3 w hr3 hB (by omega) hr3.2.1 h1 h2 (by omega) (by omega) (by omega) (by omega) d1 d2
  · rw [if_neg hok] at hr
    by_cases hf : a0 = 0 ∨ a0 = 3
    · by_cases h1 : digOk a1 4 12 = true
      · have h2 : digOk a2 13 19 = false := by
          cases h2 : digOk a2 13 19 with
          | false => rfl
          | true => exact absurd (by simp only [mpOk, h1, h2, Bool.and_true, Bool.or_eq_true, decide_eq_true_eq]; exact hf) hok
        exact bad rfl hr (spec_MakePin.bad2 a0 hf a1 a2 A3 l3.length c3 w hs1 hs2 h1 h2)
      · exact bad rfl hr (spec_MakePin.bad1 a0 hf a1 a2 A3 l3.length c3 w hs1 (by simpa using h1))
    · exact bad rfl hr (spec_MakePin.bad0 a0 a1 a2 A3 l3.length c3 w (fun h => hf (.inl h)) (fun h => hf (.inr h)))
theorem impl_MakePin.calls (a0 : Int) (a1 a2 : ByteArray) (A3 : Option Addr) (c3 : Nat) (l3 : List Int) (r1 : Int) (r2 : List Int) (r3 : Int) (w : World) (hr3 : Kd.C (Kd.int .u8) w A3 l3.length l3) (hc3 : l3.length ≤ c3) (h : impl_MakePin.f a0 a1 a2 l3 = some (r1, r2, r3)) :
    Calls Try.prog 20 #[.int .i64 a0, .string a1, .string a2, .slice A3 l3.length c3] w fun e w' => ∃ v0_ : Value, e = .returned (.agg #[.int .i64 r1, v0_, .int .i64 r3]) ∧ Kd.R (Kd.int .u8) 84 w' w.heap.size (fun _ => True) v0_ r2 ∧ Below w.heap.size w w' := by
  obtain ⟨⟨hs1, hs2, hb⟩, hr⟩ := ite_some h
  have hB := bytesB_of hb
  have bad : ∀ {q}, q = (1, [], 0) → q = (r1, r2, r3) → (Calls Try.prog 20 #[.int .i64 a0, .string a1, .string a2, .slice A3 l3.length c3] w fun e w' => e = .returned (.agg #[.int .i64 1, .slice none 0 0, .int .i64 0]) ∧ Below w.heap.size w w') → Calls Try.prog 20 #[.int .i64 a0, .string a1, .string a2, .slice A3 l3.length c3] w fun e w' => ∃ v0_ : Value, e = .returned (.agg #[.int .i64 r1, v0_, .int .i64 r3]) ∧ Kd.R (Kd.int .u8) 84 w' w.heap.size (fun _ => True) v0_ r2 ∧ Below w.heap.size w w' := by
    intro q h1 h2 hc
    rw [h1] at h2
    simp only [Prod.mk.injEq] at h2
    obtain ⟨rfl, rfl, rfl⟩ := h2
    exact hc.mono fun e w' ⟨he, hw⟩ => ⟨_, he, Kd.R_nil _ _ _ _ _, hw⟩
  unfold mpR at hr
  by_cases hok : mpOk a0 a1 a2 = true
  · rw [if_pos hok] at hr
    simp only [mpOk, Bool.and_eq_true, Bool.or_eq_true, decide_eq_true_eq] at hok
    obtain ⟨hf, h1, h2⟩ := hok
    obtain ⟨d1, l1, u1⟩ := digOk_of h1
    obtain ⟨d2, l2, u2⟩ := digOk_of h2
    by_cases h0 : a0 = 0
    · subst h0
      rw [if_pos rfl] at hr
      simp only [Prod.mk.injEq] at hr
      obtain ⟨rfl, rfl, rfl⟩ := hr
      exact impl_MakePin.f0 a1 a2 A3 l3.length c3 w h1 h2 (by omega) (by omega) (by omega) (by omega) d1 d2
    · obtain rfl : a0 = 3 := by omega
      rw [if_neg h0] at hr
      by_cases hd : l3.length < 14 - a1.size
      · rw [if_pos hd] at hr
        simp only [Prod.mk.injEq] at hr
        obtain ⟨rfl, rfl, rfl⟩ := hr
        exact (impl_MakePin.f3s a1 a2 A3 l3 c3 w hr3 hB hd h1 h2 (by omega) (by omega) (by omega) d1).mono fun e w' ⟨he, hw⟩ => ⟨_, he, Kd.R_nil _ _ _ _ _, hw⟩
      · rw [if_neg hd] at hr
        simp only [Prod.mk.injEq] at hr
        obtain ⟨rfl, rfl, rfl⟩ := hr
        exact impl_MakePin.f3 a1 a2 A3 l3 c3 w hr3 hB (by omega) hr3.2.1 h1 h2 (by omega) (by omega) (by omega) (by omega) d1 d2
  · rw [if_neg hok] at hr
    by_cases hf : a0 = 0 ∨ a0 = 3
    · by_cases h1 : digOk a1 4 12 = true
      · have h2 : digOk a2 13 19 = false := by
          cases h2 : digOk a2 13 19 with
          | false => rfl
          | true => exact absurd (by simp only [mpOk, h1, h2, Bool.and_true, Bool.or_eq_true, decide_eq_true_eq]; exact hf) hok
        exact bad rfl hr (impl_MakePin.bad2 a0 hf a1 a2 A3 l3.length c3 w hs1 hs2 h1 h2)
      · exact bad rfl hr (impl_MakePin.bad1 a0 hf a1 a2 A3 l3.length c3 w hs1 (by simpa using h1))
    · exact bad rfl hr (impl_MakePin.bad0 a0 a1 a2 A3 l3.length c3 w (fun h => hf (.inl h)) (fun h => hf (.inr h)))
end Go.Proofs.Ytiejallnkgllnaa
namespace Go.Proofs.Ytiejallnkgllnaa
open Go.RowKit Go.Proofs.YtiejallnkgllnaaW.PrintWords Go.Proofs.YtiejallnkgllnaaW.PrintLast Go.Proofs.YtiejallnkgllnaaW.PrintMore Go.Proofs.Ytiejallnkgllnaa.D
set_option linter.unusedVariables false
def spec_Des.f (l0 l1 : List Int) (a2 : Bool) : Option (List Int) := if bytesB l0 = true ∧ bytesB l1 = true then some (if l0.length = 8 ∧ l1.length = 8 then desL l0 l1 a2 else []) else none
theorem spec_Des.calls (A0 : Option Addr) (c0 : Nat) (l0 : List Int) (A1 : Option Addr) (c1 : Nat) (l1 : List Int) (a2 : Bool) (r : List Int) (w : World) (hr0 : Kd.C (Kd.int .u8) w A0 l0.length l0) (hc0 : l0.length ≤ c0) (hr1 : Kd.C (Kd.int .u8) w A1 l1.length l1) (hc1 : l1.length ≤ c1) (h : spec_Des.f l0 l1 a2 = some r) :
    Calls Try.prog 108 #[.slice A0 l0.length c0, .slice A1 l1.length c1, .bool a2] w fun e w' => ∃ v0_ : Value, e = .returned (v0_) ∧ Kd.R (Kd.int .u8) 5 w' w.heap.size (fun _ => True) v0_ r ∧ Below w.heap.size w w' := by
  obtain ⟨⟨hb0, hb1⟩, hr⟩ := ite_some h
  by_cases hl : l0.length = 8 ∧ l1.length = 8
  · rw [if_pos hl] at hr
    subst hr
    have := spec_Des.calls8 A0 c0 l0 A1 c1 l1 a2 w (by rw [← hl.1]; exact hr0) (by omega) (by rw [← hl.2]; exact hr1) (by omega) hl.1 (bytesB_of hb0) hl.2 (bytesB_of hb1)
    rw [hl.1, hl.2]
    exact this
  · rw [if_neg hl] at hr
    subst hr
    exact spec_Des.calls0 A0 c0 _ A1 c1 _ a2 w hl
theorem spec_Des_eq (l0 l1 : List Int) (a2 : Bool) (h0 : Bytes l0) (h1 : Bytes l1) : spec_Des.f l0 l1 a2 = some (if l0.length = 8 ∧ l1.length = 8 then desL l0 l1 a2 else []) := by
  rw [spec_Des.f, if_pos ⟨bytesB_mk h0, bytesB_mk h1⟩]
end Go.Proofs.Ytiejallnkgllnaa
namespace Go.Proofs.Ytiejallnkgllnaa.LQ
open Go.RowKit Go.Proofs.YtiejallnkgllnaaW.PrintWords Go.Proofs.YtiejallnkgllnaaW.PrintLast Go.Proofs.YtiejallnkgllnaaW.PrintMore
attribute [local go_sem] max2_int min2_int max_two min_two max_three min_three max_four min_four   -- for this text's walks alone
set_option linter.unusedVariables false
set_option linter.unusedSimpArgs false

def spec_Tdea.j0 : Nat → List Int → List Int → Bool → Bool → Option (List Int)
  | 0, _, _, _, _ => none
  | k + 1, x0, x1, x2, x14 => if x14 = true then (some ([] : List Int)) else (if 8 ≤ (x0.length : Int) then ((spec_Des.f (x0.take 8) x1 x2).bind fun t238 => ((spec_Des.f (x0.drop 8) t238 (!x2)).bind fun t241 => ((spec_Des.f (x0.take 8) t241 x2).bind fun t244 => (some t244)))) else (none))
def spec_Tdea.f (k : Nat) (l0 : List Int) (l1 : List Int) (a2 : Bool) : Option (List Int) := if (l0.length : Int) = 16 then (spec_Tdea.j0 k l0 l1 a2 ((l1.length : Int) != 8)) else (spec_Tdea.j0 k l0 l1 a2 true)
def spec_Tdea.T3 : Bool × List (List Nat × List Nat) := (true, [([], []), ([0], [0]), ([], []), ([2], [2]), ([], []), ([4], [4]), ([], []), ([], []), ([5, 6, 7], [5, 6, 7]), ([], []), ([9], [9]), ([3, 8, 10, 8], [3, 8, 10]), ([], []), ([1, 11, 12, 11], [1, 11, 12]), ([13, 13, 0, 1, 2, 3, 4, 5, 6, 7, 8, 9, 10, 11, 12, 13], [13])])
def spec_Tdea.B3 : List Nat := [0, 1, 0, 4, 0, 16, 0, 0, 240, 0, 512, 2044, 0, 8191, 16383]
theorem spec_Tdea.tab3 : rtab .any (opsOf Try.f92 3) = spec_Tdea.T3 := by kernel_rfl
theorem spec_Tdea.bits3 : waitsOk spec_Tdea.T3.2 spec_Tdea.B3 = true := by kernel_rfl
set_option maxHeartbeats 8000000 in
set_option maxRecDepth 100000 in
theorem spec_Tdea.calls (k : Nat) (A0 : Option Addr) (c0 : Nat) (l0 : List Int) (A1 : Option Addr) (c1 : Nat) (l1 : List Int) (a2 : Bool) (r : List Int) (w : World) (hr0 : Kd.C (Kd.int .u8) w A0 l0.length l0) (hc0 : l0.length ≤ c0) (hr1 : Kd.C (Kd.int .u8) w A1 l1.length l1) (hc1 : l1.length ≤ c1) (h : spec_Tdea.f k l0 l1 a2 = some r) :
    Calls Try.prog 92 #[.slice A0 l0.length c0, .slice A1 l1.length c1, .bool a2] w fun e w' => ∃ v0_ : Value, e = .returned (v0_) ∧ Kd.R (Kd.int .u8) 5 w' w.heap.size (fun _ => True) v0_ r ∧ Below w.heap.size w w' := by
  have HR0 := Aside0.mk hr0
  have HC0 := Aside0.mk hc0
  clear hr0 hc0
  have HR1 := Aside0.mk hr1
  have HC1 := Aside0.mk hc1
  clear hr1 hc1
  have HB := Aside0.mk (Below.refl w.heap.size w)
  have H : (if (l0.length : Int) = 16 then (spec_Tdea.j0 k l0 l1 a2 ((l1.length : Int) != 8)) else (spec_Tdea.j0 k l0 l1 a2 true)) = some r := h
  clear h
  have HC4 := Aside0.mk H
  clear H
  go_enter Try.func92, Try.ntmps92
  go_upto_region 1 with (fail)
  go_cut [14] (fun v14 wc => ∃ (kq : Nat) (x14_3 : Bool), v14 = .bool x14_3 ∧ Aside0 (spec_Tdea.j0 kq l0 l1 a2 x14_3 = some r) ∧ Aside0 (kq ≤ k) ∧ Aside0 (Below w.heap.size w wc))
  case first =>
    have H := HC4.out
    clear HC4
    by_cases c5 : (l0.length : Int) = 16
    · rw [if_pos c5] at H
      have c5b0 : ((l0.length : Int) == 16) = true := beq_iff_eq.mpr c5
      have c5b1 : ((l0.length : Int) != 16) = false := bne_eq_false_iff_eq.mpr c5
      clear c5
      (first | rw [c5b0] | (simp only [i64_w, i32_w]; rw [c5b0]) | skip)
      have H' := Aside0.mk H
      clear H
      go_wp2
      go_meet
      case rel => exact ⟨_, (((l1.length : Int) != 8)), (by first | rfl | (simp; done) | (simp [*]; done)), H', ⟨by first | omega | exact Nat.le_refl _⟩, ⟨by repeat (first | (with_reducible first | exact HB.out | apply below_alloc | apply pw_below_drewN | apply below_drew1) | exact HB.out)⟩⟩
    · rw [if_neg c5] at H
      have c5b0 : ((l0.length : Int) == 16) = false := beq_eq_false_iff_ne.mpr c5
      have c5b1 : ((l0.length : Int) != 16) = true := bne_iff_ne.mpr c5
      (first | rw [c5b0] | (simp only [i64_w, i32_w]; rw [c5b0]) | skip)
      have H' := Aside0.mk H
      clear H
      go_wp2
      go_meet
      case rel => exact ⟨_, (true), (by first | rfl | (simp; done) | (simp [*]; done)), H', ⟨by first | omega | exact Nat.le_refl _⟩, ⟨by repeat (first | (with_reducible first | exact HB.out | apply below_alloc | apply pw_below_drewN | apply below_drew1) | exact HB.out)⟩⟩
  case rest =>
    clear HC4
    try clear c1
    try clear p2
    try clear c5
    try clear c5b0
    try clear c5b1
    obtain ⟨kq, x14_3, rfl, HA, HJ3, HB⟩ := hcut
    cases kq with
    | zero => exact absurd HA.out (by simp [spec_Tdea.j0])
    | succ kj3 =>
      have H := HA.out
      clear HA
      simp only [spec_Tdea.j0] at H
      by_cases c6 : x14_3 = true
      · subst c6
        have H1 : (some ([] : List Int)) = some r := by rw [if_pos rfl] at H; exact H
        clear H
        have H := H1
        clear H1
        obtain rfl := Option.some.inj H
        go_wp2
        go_ret
        exact ⟨_, by first | rfl | (simp [errW_none, errW_some] <;> rfl) | (simp [*, errW_none, errW_some] <;> rfl), by first | exact Kd.R_nil _ _ _ _ _ | exact Kd.N_nil _ _ _ _ _ | exact Kd.V_nil _ _ _ _ _ | exact Kd.Q_nil _ _ _ _ _ | exact Kd.S_nil _ _ _ _ _, by repeat (first | (with_reducible first | exact HB.out | apply below_alloc | apply pw_below_drewN | apply below_drew1) | exact HB.out)⟩
      · replace c6 := Bool.eq_false_iff.mpr c6
        subst c6
        have H1 : (if 8 ≤ (l0.length : Int) then ((spec_Des.f (l0.take 8) l1 a2).bind fun t238 => ((spec_Des.f (l0.drop 8) t238 (!a2)).bind fun t241 => ((spec_Des.f (l0.take 8) t241 a2).bind fun t244 => (some t244)))) else (none)) = some r := by rw [if_neg (show ¬ (false = true) by decide)] at H; exact H
        clear H
        have H := H1
        clear H1
        by_cases c7 : 8 ≤ (l0.length : Int)
        · rw [if_pos c7] at H
          have c7b0 := eq_true c7
          have c7b1 : decide (8 ≤ (l0.length : Int)) = true := decide_eq_true c7
          clear c7
          have c8b0 := eq_true (of_decide_eq_true (by first | (with_reducible assumption) | assumption) : 8 ≤ (l0.length : Int))
          have c9b0 := eq_true (of_decide_eq_true (by first | (with_reducible assumption) | assumption) : 8 ≤ (l0.length : Int))
          replace H := Option.bind_eq_some_iff.mp H
          obtain ⟨t238, A100, H⟩ := H
          replace H : ((spec_Des.f (l0.drop 8) t238 (!a2)).bind fun t241 => ((spec_Des.f (l0.take 8) t241 a2).bind fun t244 => (some t244))) = some r := H
          have A10 := Aside0.mk A100
          clear A100
          replace H := Option.bind_eq_some_iff.mp H
          obtain ⟨t241, A110, H⟩ := H
          replace H : ((spec_Des.f (l0.take 8) t241 a2).bind fun t244 => (some t244)) = some r := H
          have A11 := Aside0.mk A110
          clear A110
          replace H := Option.bind_eq_some_iff.mp H
          obtain ⟨t244, A120, H⟩ := H
          replace H : (some t244) = some r := H
          have A12 := Aside0.mk A120
          clear A120
          obtain rfl := Option.some.inj H
          try go_wp2
          have n0_ := Aside0.mk (below_drew1 HB.out)
          clear HB
          have HB := n0_
          clear n0_
          obtain ⟨i014, hi014, _, hsz14, _⟩ := info_parts info5
          obtain ⟨hcut14, hA14, hC14⟩ := print_take_of (P := Try.prog) (Value.int .u8) 0 29 5 .i64 Try.underlying29 hi014 hsz14 A0 c0 l0 8 (by omega) (of_decide_eq_true (by first | (with_reducible assumption) | assumption)) HC0.out
          have HR235 := Aside0.mk (Kd.C_of_reads (h1 := fun _ => rfl) (hA14 _ (Kd.reads_of_C HR0.out)))
          have HC235 := Aside0.mk hC14
          clear hA14 hC14 hi014 hsz14
          obtain ⟨i015, hi015, _, hsz15, _⟩ := info_parts info5
          obtain ⟨A15, hcut15, hA15, hC15⟩ := print_drop_of (P := Try.prog) (Value.int .u8) 0 29 5 .i64 Try.underlying29 hi015 hsz15 A0 c0 l0 8 (by omega) (of_decide_eq_true (by first | (with_reducible assumption) | assumption)) HC0.out
          have HR236 := Aside0.mk (Kd.C_of_reads (h1 := fun _ => rfl) (hA15 _ (Kd.reads_of_C HR0.out)))
          have HC236 := Aside0.mk hC15
          clear hA15 hC15 hi015 hsz15
          obtain ⟨i016, hi016, _, hsz16, _⟩ := info_parts info5
          obtain ⟨hcut16, hA16, hC16⟩ := print_take_of (P := Try.prog) (Value.int .u8) 0 29 5 .i64 Try.underlying29 hi016 hsz16 A0 c0 l0 8 (by omega) (of_decide_eq_true (by first | (with_reducible assumption) | assumption)) HC0.out
          have HR237 := Aside0.mk (Kd.C_of_reads (h1 := fun _ => rfl) (hA16 _ (Kd.reads_of_C HR0.out)))
          have HC237 := Aside0.mk hC16
          clear hA16 hC16 hi016 hsz16
          refine start_ (n := 15) (S := fun w' => True) (ds := []) #[false, false, false, false, false, false, false, false, false, false, false, false, false, false, false] (by kernel_rfl) rfl rfl trivial (fun hHeld => ?_); refine with_tabW spec_Tdea.tab3 spec_Tdea.bits3 (fun HT_ HW_ => ?_)
          generalize wc.drew = w13 at HB HR235 HR236 HR237 hHeld ⊢
          refine pure_ (i := 0) (N := some 15) (v := ?_) (a' := ?_) #[true, false, false, false, false, false, false, false, false, false, false, false, false, false, false] rfl rfl (any_of HT_.out (by kernel_rfl)) (fun _ _ _ h => h) (Or.inl ⟨by rfl, ?_⟩) ?_ ?_
          rotate_left
          · intro w'
            go_simp
            with_reducible rfl
          rotate_left
          · simp only [Act.put, List.setIfInBounds_toArray, List.set_cons_zero, List.set_cons_succ, i64_w, i32_w]
            rfl
          refine pure_ (i := 1) (N := some 16) (v := ?_) (a' := ?_) #[true, true, false, false, false, false, false, false, false, false, false, false, false, false, false] rfl rfl (any_of HT_.out (by kernel_rfl)) (fun _ _ _ h => h) (Or.inl ⟨by rfl, ?_⟩) ?_ ?_
          rotate_left
          · intro w'
            go_simp
            with_reducible rfl
          rotate_left
          · simp only [Act.put, List.setIfInBounds_toArray, List.set_cons_zero, List.set_cons_succ, i64_w, i32_w]
            rfl
          refine pure_ (i := 2) (N := some 17) (v := ?_) (a' := ?_) #[true, true, true, false, false, false, false, false, false, false, false, false, false, false, false] rfl rfl (any_of HT_.out (by kernel_rfl)) (fun _ _ _ h => h) (Or.inl ⟨by rfl, ?_⟩) ?_ ?_
          rotate_left
          · intro w'
            go_simp
            with_reducible rfl
          rotate_left
          · simp only [Act.put, List.setIfInBounds_toArray, List.set_cons_zero, List.set_cons_succ, i64_w, i32_w]
            rfl
          refine pure_ (i := 3) (N := some 18) (v := ?_) (a' := ?_) #[true, true, true, true, false, false, false, false, false, false, false, false, false, false, false] rfl rfl (any_of HT_.out (by kernel_rfl)) (fun _ _ _ h => h) (Or.inl ⟨by rfl, ?_⟩) ?_ ?_
          rotate_left
          · intro w'
            go_simp
            with_reducible rfl
          rotate_left
          · simp only [Act.put, List.setIfInBounds_toArray, List.set_cons_zero, List.set_cons_succ, i64_w, i32_w]
            rfl
          refine pure_ (i := 4) (N := some 19) (v := ?_) (a' := ?_) #[true, true, true, true, true, false, false, false, false, false, false, false, false, false, false] rfl rfl (any_of HT_.out (by kernel_rfl)) (fun _ _ _ h => h) (Or.inl ⟨by rfl, ?_⟩) ?_ ?_
          rotate_left
          · intro w'
            go_simp
            with_reducible rfl
          rotate_left
          · simp only [Act.put, List.setIfInBounds_toArray, List.set_cons_zero, List.set_cons_succ, i64_w, i32_w]
            rfl
          refine pure_ (i := 5) (N := some 20) (v := ?_) (a' := ?_) #[true, true, true, true, true, true, false, false, false, false, false, false, false, false, false] rfl rfl (any_of HT_.out (by kernel_rfl)) (fun _ _ _ h => h) (Or.inl ⟨by rfl, ?_⟩) ?_ ?_
          rotate_left
          · intro w'
            go_simp
            with_reducible rfl
          rotate_left
          · simp only [Act.put, List.setIfInBounds_toArray, List.set_cons_zero, List.set_cons_succ, i64_w, i32_w]
            rfl
          refine pure_ (i := 6) (N := some 21) (v := ?_) (a' := ?_) #[true, true, true, true, true, true, true, false, false, false, false, false, false, false, false] rfl rfl (any_of HT_.out (by kernel_rfl)) (fun _ _ _ h => h) (Or.inl ⟨by rfl, ?_⟩) ?_ ?_
          rotate_left
          · intro w'
            go_simp
            with_reducible rfl
          rotate_left
          · simp only [Act.put, List.setIfInBounds_toArray, List.set_cons_zero, List.set_cons_succ, i64_w, i32_w]
            rfl
          refine pure_ (i := 7) (N := some 22) (v := ?_) (a' := ?_) #[true, true, true, true, true, true, true, true, false, false, false, false, false, false, false] rfl rfl (any_of HT_.out (by kernel_rfl)) (fun _ _ _ h => h) (Or.inl ⟨by rfl, ?_⟩) ?_ ?_
          rotate_left
          · intro w'
            go_simp
            with_reducible rfl
          rotate_left
          · simp only [Act.put, List.setIfInBounds_toArray, List.set_cons_zero, List.set_cons_succ, i64_w, i32_w]
            rfl
          refine pure_ (i := 9) (N := some 24) (v := ?_) (a' := ?_) #[true, true, true, true, true, true, true, true, false, true, false, false, false, false, false] rfl rfl (any_of HT_.out (by kernel_rfl)) (fun _ _ _ h => h) (Or.inl ⟨by rfl, ?_⟩) ?_ ?_
          rotate_left
          · intro w'
            go_simp
            with_reducible rfl
          rotate_left
          · simp only [Act.put, List.setIfInBounds_toArray, List.set_cons_zero, List.set_cons_succ, i64_w, i32_w]
            rfl
          refine pure_ (i := 10) (N := some 25) (v := ?_) (a' := ?_) #[true, true, true, true, true, true, true, true, false, true, true, false, false, false, false] rfl rfl (any_of HT_.out (by kernel_rfl)) (fun _ _ _ h => h) (Or.inl ⟨by rfl, ?_⟩) ?_ ?_
          rotate_left
          · intro w'
            go_simp
            with_reducible rfl
          rotate_left
          · simp only [Act.put, List.setIfInBounds_toArray, List.set_cons_zero, List.set_cons_succ, i64_w, i32_w]
            rfl
          refine pure_ (i := 12) (N := some 27) (v := ?_) (a' := ?_) #[true, true, true, true, true, true, true, true, false, true, true, false, true, false, false] rfl rfl (any_of HT_.out (by kernel_rfl)) (fun _ _ _ h => h) (Or.inl ⟨by rfl, ?_⟩) ?_ ?_
          rotate_left
          · intro w'
            go_simp
            with_reducible rfl
          rotate_left
          · simp only [Act.put, List.setIfInBounds_toArray, List.set_cons_zero, List.set_cons_succ, i64_w, i32_w]
            rfl
          refine one_ (i := 8) (N := some 23) #[true, true, true, true, true, true, true, true, true, true, true, false, true, false, false] rfl rfl (one_of HT_.out (by kernel_rfl)) (by decide) (fun K hK => ?_)
          refine goes_ Try.func108 (by kernel_rfl) rfl #[.slice A0 (l0.take 8).length c0, .slice A1 l1.length c1, .bool a2] (by rfl) rfl rfl (by (try simp only [List.map_toArray, List.map_cons, List.map_nil]); first | done | (rw [show (l0.take 8).length = 8 from (by rw [List.length_take]; have h_ : (8 : Int) ≤ (l0.length : Int) := of_decide_eq_true (by first | (with_reducible assumption) | assumption); omega)] <;> rfl) | rfl | (simp only [List.length_drop, List.length_take]; rfl)) ?_
          with_reducible refine (spec_Des.calls _ _ (l0.take 8) _ _ l1 a2 t238 _ ?side1 ?side2 ?side3 ?side4 A10.out).mono ?_
          (case side1 => repeat (first | exact (Kd.C_below HR237.out HB.out) | (with_reducible refine Kd.C_alloc ?_ _) | (with_reducible refine Kd.C_drewN ?_ _) | (with_reducible refine Kd.C_drew ?_)))
          (case side2 => exact HC237.out)
          (case side3 => repeat (first | exact (Kd.C_below HR1.out HB.out) | (with_reducible refine Kd.C_alloc ?_ _) | (with_reducible refine Kd.C_drewN ?_ _) | (with_reducible refine Kd.C_drew ?_)))
          (case side4 => exact HC1.out)
          rintro e w17 ⟨v239, rfl, ho0, hb⟩
          refine ⟨_, rfl, ?_⟩
          have n0_ := Aside0.mk (Kd.R_lower ho0 (below_size (by repeat (first | (with_reducible first | exact HB.out | apply below_alloc | apply pw_below_drewN | apply below_drew1) | exact HB.out))))
          have n1_ := Aside0.mk (below_step (by repeat (first | (with_reducible first | exact HB.out | apply below_alloc | apply pw_below_drewN | apply below_drew1) | exact HB.out)) hb)
          clear HB
          have HO240 := n0_
          have HB := n1_
          clear n0_ n1_
          (try clear hb)
          (try clear hb2)
          (try clear hk)
          (try clear hi)
          (try clear ho0)
          obtain ⟨Ao18, co18, eo18⟩ := Kd.R_slice HO240.out
          (first | subst eo18 | (injection eo18 with f1_ f2_ f3_; have f4_ := f1_.symm; have f5_ := f3_.symm; clear f1_ f2_ f3_; subst f4_; subst f5_))
          refine hK.out _ _ trivial (fun hHeld => ?_)
          clear hK K
          refine norm_ (a' := ?_) ?_ ?_
          rotate_left
          · show Act.put _ (some 23) _ = _
            simp only [Act.put, List.setIfInBounds_toArray, List.set_cons_zero, List.set_cons_succ, i64_w, i32_w]
            rfl
          refine one_ (i := 11) (N := some 26) #[true, true, true, true, true, true, true, true, true, true, true, true, true, false, false] rfl rfl (one_of HT_.out (by kernel_rfl)) (by decide) (fun K hK => ?_)
          refine goes_ Try.func108 (by kernel_rfl) rfl #[.slice A15 (l0.drop 8).length (c0 - 8), .slice Ao18 t238.length co18, .bool (!a2)] (by rfl) rfl rfl (by (try simp only [List.map_toArray, List.map_cons, List.map_nil]); first | done | (rw [show (l0.drop 8).length = (l0.length - 8) from List.length_drop] <;> rfl) | rfl | (simp only [List.length_drop, List.length_take]; rfl)) ?_
          with_reducible refine (spec_Des.calls _ _ (l0.drop 8) _ _ t238 (!a2) t241 _ ?side1 ?side2 ?side3 ?side4 A11.out).mono ?_
          (case side1 => repeat (first | exact (Kd.C_below HR236.out HB.out) | (with_reducible refine Kd.C_alloc ?_ _) | (with_reducible refine Kd.C_drewN ?_ _) | (with_reducible refine Kd.C_drew ?_)))
          (case side2 => exact HC236.out)
          (case side3 => repeat (first | exact (Kd.R_reads' HO240.out).2.2 | (with_reducible refine Kd.C_alloc ?_ _) | (with_reducible refine Kd.C_drewN ?_ _) | (with_reducible refine Kd.C_drew ?_)))
          (case side4 => exact (Kd.R_reads' HO240.out).2.1)
          rintro e w19 ⟨v242, rfl, ho0, hb⟩
          refine ⟨_, rfl, ?_⟩
          have n0_ := Aside0.mk (Kd.R_elder' (by (with_reducible repeat (first | apply Kd.R_alloc | apply Kd.R_drewN | apply Kd.R_drew)); exact HO240.out) (Kd.R_base ho0) hb)
          have n1_ := Aside0.mk (Kd.R_lower (Kd.R_new' ho0 (Kd.R_lt (by (with_reducible repeat (first | apply Kd.R_alloc | apply Kd.R_drewN | apply Kd.R_drew)); exact HO240.out))) (below_size (by repeat (first | (with_reducible first | exact HB.out | apply below_alloc | apply pw_below_drewN | apply below_drew1) | exact HB.out))))
          have n2_ := Aside0.mk (below_step (by repeat (first | (with_reducible first | exact HB.out | apply below_alloc | apply pw_below_drewN | apply below_drew1) | exact HB.out)) hb)
          clear HO240
          clear HB
          have HO240 := n0_
          have HO243 := n1_
          have HB := n2_
          clear n0_ n1_ n2_
          (try clear hb)
          (try clear hb2)
          (try clear hk)
          (try clear hi)
          (try clear ho0)
          obtain ⟨Ao20, co20, eo20⟩ := Kd.R_slice HO243.out
          (first | subst eo20 | (injection eo20 with f1_ f2_ f3_; have f4_ := f1_.symm; have f5_ := f3_.symm; clear f1_ f2_ f3_; subst f4_; subst f5_))
          refine hK.out _ _ trivial (fun hHeld => ?_)
          clear hK K
          refine norm_ (a' := ?_) ?_ ?_
          rotate_left
          · show Act.put _ (some 26) _ = _
            simp only [Act.put, List.setIfInBounds_toArray, List.set_cons_zero, List.set_cons_succ, i64_w, i32_w]
            rfl
          refine one_ (i := 13) (N := some 28) #[true, true, true, true, true, true, true, true, true, true, true, true, true, true, false] rfl rfl (one_of HT_.out (by kernel_rfl)) (by decide) (fun K hK => ?_)
          refine goes_ Try.func108 (by kernel_rfl) rfl #[.slice A0 (l0.take 8).length c0, .slice Ao20 t241.length co20, .bool a2] (by rfl) rfl rfl (by (try simp only [List.map_toArray, List.map_cons, List.map_nil]); first | done | (rw [show (l0.take 8).length = 8 from (by rw [List.length_take]; have h_ : (8 : Int) ≤ (l0.length : Int) := of_decide_eq_true (by first | (with_reducible assumption) | assumption); omega)] <;> rfl) | rfl | (simp only [List.length_drop, List.length_take]; rfl)) ?_
          with_reducible refine (spec_Des.calls _ _ (l0.take 8) _ _ t241 a2 t244 _ ?side1 ?side2 ?side3 ?side4 A12.out).mono ?_
          (case side1 => repeat (first | exact (Kd.C_below HR235.out HB.out) | (with_reducible refine Kd.C_alloc ?_ _) | (with_reducible refine Kd.C_drewN ?_ _) | (with_reducible refine Kd.C_drew ?_)))
          (case side2 => exact HC235.out)
          (case side3 => repeat (first | exact (Kd.R_reads' HO243.out).2.2 | (with_reducible refine Kd.C_alloc ?_ _) | (with_reducible refine Kd.C_drewN ?_ _) | (with_reducible refine Kd.C_drew ?_)))
          (case side4 => exact (Kd.R_reads' HO243.out).2.1)
          rintro e w21 ⟨v245, rfl, ho0, hb⟩
          refine ⟨_, rfl, ?_⟩
          have n0_ := Aside0.mk (Kd.R_elder' (by (with_reducible repeat (first | apply Kd.R_alloc | apply Kd.R_drewN | apply Kd.R_drew)); exact HO240.out) (Kd.R_base ho0) hb)
          have n1_ := Aside0.mk (Kd.R_elder' (by (with_reducible repeat (first | apply Kd.R_alloc | apply Kd.R_drewN | apply Kd.R_drew)); exact HO243.out) (Kd.R_base ho0) hb)
          have n2_ := Aside0.mk (Kd.R_lower (Kd.R_new' (Kd.R_new' ho0 (Kd.R_lt (by (with_reducible repeat (first | apply Kd.R_alloc | apply Kd.R_drewN | apply Kd.R_drew)); exact HO240.out))) (Kd.R_lt (by (with_reducible repeat (first | apply Kd.R_alloc | apply Kd.R_drewN | apply Kd.R_drew)); exact HO243.out))) (below_size (by repeat (first | (with_reducible first | exact HB.out | apply below_alloc | apply pw_below_drewN | apply below_drew1) | exact HB.out))))
          have n3_ := Aside0.mk (below_step (by repeat (first | (with_reducible first | exact HB.out | apply below_alloc | apply pw_below_drewN | apply below_drew1) | exact HB.out)) hb)
          clear HO240
          clear HO243
          clear HB
          have HO240 := n0_
          have HO243 := n1_
          have HO246 := n2_
          have HB := n3_
          clear n0_ n1_ n2_ n3_
          (try clear hb)
          (try clear hb2)
          (try clear hk)
          (try clear hi)
          (try clear ho0)
          refine hK.out _ _ trivial (fun hHeld => ?_)
          clear hK K
          refine norm_ (a' := ?_) ?_ ?_
          rotate_left
          · show Act.put _ (some 28) _ = _
            simp only [Act.put, List.setIfInBounds_toArray, List.set_cons_zero, List.set_cons_succ, i64_w, i32_w]
            rfl
          refine pure_ (i := 14) (N := some 6) (v := ?_) (a' := ?_) #[true, true, true, true, true, true, true, true, true, true, true, true, true, true, true] rfl rfl (any_of HT_.out (by kernel_rfl)) (fun _ _ _ h => h) (Or.inl ⟨by rfl, ?_⟩) ?_ ?_
          rotate_left
          · intro w'
            go_simp
            with_reducible rfl
          rotate_left
          · simp only [Act.put, List.setIfInBounds_toArray, List.set_cons_zero, List.set_cons_succ, i64_w, i32_w]
            rfl
          refine done_ (done_of HT_.out (by kernel_rfl)) ?_
          try go_wp2
          go_ret
          exact ⟨_, by first | rfl | (simp [errW_none, errW_some] <;> rfl) | (simp [*, errW_none, errW_some] <;> rfl), by (with_reducible repeat (first | apply Kd.R_alloc | apply Kd.R_drewN | apply Kd.R_drew)); exact Kd.R_mono HO246.out (fun _ hk => trivial), by repeat (first | (with_reducible first | exact HB.out | apply below_alloc | apply pw_below_drewN | apply below_drew1) | exact HB.out)⟩
        · rw [if_neg c7] at H
          exact absurd H (by simp)

def spec_l3C0.f  : Option (List Int) := (some (([192, 192, 192, 192, 0, 0, 0, 0] : List Int) : List Int)).bind fun y247 => ((some (([192, 192, 192, 192, 0, 0, 0, 0] : List Int) : List Int)).bind fun y250 => (if y247.length + y250.length < 140737488355328 then (some (y247 ++ y250)) else (none)))
set_option maxHeartbeats 8000000 in
set_option maxRecDepth 100000 in
theorem spec_l3C0.calls  (r : List Int) (w : World) (h : spec_l3C0.f  = some r) :
    Calls Try.prog 111 #[] w fun e w' => ∃ v0_ : Value, e = .returned (v0_) ∧ Kd.R (Kd.int .u8) 5 w' w.heap.size (fun _ => True) v0_ r ∧ Below w.heap.size w w' := by
  have HB := Aside0.mk (Below.refl w.heap.size w)
  have H : ((some (([192, 192, 192, 192, 0, 0, 0, 0] : List Int) : List Int)).bind fun y247 => ((some (([192, 192, 192, 192, 0, 0, 0, 0] : List Int) : List Int)).bind fun y250 => (if y247.length + y250.length < 140737488355328 then (some (y247 ++ y250)) else (none)))) = some r := h
  clear h
  obtain ⟨y247, hy247⟩ : ∃ y_ : List Int, y_ = (([192, 192, 192, 192, 0, 0, 0, 0] : List Int)) := ⟨_, rfl⟩
  replace H : ((some (([192, 192, 192, 192, 0, 0, 0, 0] : List Int) : List Int)).bind fun y250 => (if y247.length + y250.length < 140737488355328 then (some (y247 ++ y250)) else (none))) = some r := by first | (rw [hy247]; with_reducible exact H) | (have H2_ := (Option.bind_some _ _).symm.trans H; rw [hy247]; with_reducible exact H2_) | (have H2_ := (Option.bind_some _ _).symm.trans H; with_reducible exact H2_) | with_reducible exact H | (rw [hy247]; exact H) | exact H
  have Ny247 := Aside0.mk hy247
  clear hy247
  obtain ⟨y250, hy250⟩ : ∃ y_ : List Int, y_ = (([192, 192, 192, 192, 0, 0, 0, 0] : List Int)) := ⟨_, rfl⟩
  replace H : (if y247.length + y250.length < 140737488355328 then (some (y247 ++ y250)) else (none)) = some r := by first | (rw [hy250]; with_reducible exact H) | (have H2_ := (Option.bind_some _ _).symm.trans H; rw [hy250]; with_reducible exact H2_) | (have H2_ := (Option.bind_some _ _).symm.trans H; with_reducible exact H2_) | with_reducible exact H | (rw [hy250]; exact H) | exact H
  have Ny250 := Aside0.mk hy250
  clear hy250
  by_cases c1 : y247.length + y250.length < 140737488355328
  · rw [if_pos c1] at H
    have LMc1 := Aside0.mk c1
    clear c1
    obtain ⟨y253, hy253⟩ : ∃ y_ : List Int, y_ = (y247 ++ y250) := ⟨_, rfl⟩
    replace H : (some y253) = some r := by first | (rw [hy253]; with_reducible exact H) | (have H2_ := (Option.bind_some _ _).symm.trans H; rw [hy253]; with_reducible exact H2_) | (have H2_ := (Option.bind_some _ _).symm.trans H; with_reducible exact H2_) | with_reducible exact H | (rw [hy253]; exact H) | exact H
    have Ny253 := Aside0.mk hy253
    clear hy253
    obtain rfl := Option.some.inj H
    go_enter Try.func111, Try.ntmps111
    go_wp2_with (first | ((with_reducible refine gate_dst (N := 2) rfl ?_); refine Kd.R_lit (Kd.int .u8) _ 5 ?hg (N := 2) ?hd (xs := ([192, 192, 192, 192, 0, 0, 0, 0] : List Int)) (inner := [.int .u8 192, .int .u8 192, .int .u8 192, .int .u8 192, .int .u8 0, .int .u8 0, .int .u8 0, .int .u8 0]) (ok := fun _ => True) (okp := fun _ => True) ?hr ?hp (fun _ hk => hk) trivial (Below.refl _ _) (Nat.le_refl _) (by simp) ?_; (case hd => rfl); (case hg => rfl); (case hr => first | (go_simp; done) | (go_simp; rfl)); (case hp => exact (Reps.one (show Kd.M (Kd.int .u8) _ _ _ 192 [.int .u8 192] from rfl) (Reps.one (show Kd.M (Kd.int .u8) _ _ _ 192 [.int .u8 192] from rfl) (Reps.one (show Kd.M (Kd.int .u8) _ _ _ 192 [.int .u8 192] from rfl) (Reps.one (show Kd.M (Kd.int .u8) _ _ _ 192 [.int .u8 192] from rfl) (Reps.one (show Kd.M (Kd.int .u8) _ _ _ 0 [.int .u8 0] from rfl) (Reps.one (show Kd.M (Kd.int .u8) _ _ _ 0 [.int .u8 0] from rfl) (Reps.one (show Kd.M (Kd.int .u8) _ _ _ 0 [.int .u8 0] from rfl) (Reps.one (show Kd.M (Kd.int .u8) _ _ _ 0 [.int .u8 0] from rfl) (Reps.none _ _)))))))))); intro v248 w2 ho3 hb hg_ hnew_; clear hg_ hnew_; (first | rw [← Ny247.out] at ho3 | (simp only [Int.reduceToNat] at ho3; rw [← Ny247.out] at ho3)); have n0_ := Aside0.mk (Kd.R_lower ho3 (below_size (by repeat (first | (with_reducible first | exact HB.out | apply below_alloc | apply pw_below_drewN | apply below_drew1) | exact HB.out)))); have n1_ := Aside0.mk (below_step (by repeat (first | (with_reducible first | exact HB.out | apply below_alloc | apply pw_below_drewN | apply below_drew1) | exact HB.out)) hb); clear HB; have HO249 := n0_; have HB := n1_; clear n0_ n1_; clear hb ho3) | ((with_reducible refine gate_dst (N := 4) rfl ?_); refine Kd.R_lit (Kd.int .u8) _ 5 ?hg (N := 4) ?hd (xs := ([192, 192, 192, 192, 0, 0, 0, 0] : List Int)) (inner := [.int .u8 192, .int .u8 192, .int .u8 192, .int .u8 192, .int .u8 0, .int .u8 0, .int .u8 0, .int .u8 0]) (ok := fun _ => True) (okp := fun _ => True) ?hr ?hp (fun _ hk => hk) trivial (Below.refl _ _) (Nat.le_refl _) (by simp) ?_; (case hd => rfl); (case hg => rfl); (case hr => first | (go_simp; done) | (go_simp; rfl)); (case hp => exact (Reps.one (show Kd.M (Kd.int .u8) _ _ _ 192 [.int .u8 192] from rfl) (Reps.one (show Kd.M (Kd.int .u8) _ _ _ 192 [.int .u8 192] from rfl) (Reps.one (show Kd.M (Kd.int .u8) _ _ _ 192 [.int .u8 192] from rfl) (Reps.one (show Kd.M (Kd.int .u8) _ _ _ 192 [.int .u8 192] from rfl) (Reps.one (show Kd.M (Kd.int .u8) _ _ _ 0 [.int .u8 0] from rfl) (Reps.one (show Kd.M (Kd.int .u8) _ _ _ 0 [.int .u8 0] from rfl) (Reps.one (show Kd.M (Kd.int .u8) _ _ _ 0 [.int .u8 0] from rfl) (Reps.one (show Kd.M (Kd.int .u8) _ _ _ 0 [.int .u8 0] from rfl) (Reps.none _ _)))))))))); intro v251 w4 ho5 hb hg_ hnew_; clear hg_ hnew_; (first | rw [← Ny250.out] at ho5 | (simp only [Int.reduceToNat] at ho5; rw [← Ny250.out] at ho5)); have n0_ := Aside0.mk (Kd.R_elder' (by (with_reducible repeat (first | apply Kd.R_alloc | apply Kd.R_drewN | apply Kd.R_drew)); exact HO249.out) (Kd.R_base ho5) hb); have n1_ := Aside0.mk (Kd.R_lower (Kd.R_new' ho5 (Kd.R_lt (by (with_reducible repeat (first | apply Kd.R_alloc | apply Kd.R_drewN | apply Kd.R_drew)); exact HO249.out))) (below_size (by repeat (first | (with_reducible first | exact HB.out | apply below_alloc | apply pw_below_drewN | apply below_drew1) | exact HB.out)))); have n2_ := Aside0.mk (below_step (by repeat (first | (with_reducible first | exact HB.out | apply below_alloc | apply pw_below_drewN | apply below_drew1) | exact HB.out)) hb); clear HO249; clear HB; have HO249 := n0_; have HO252 := n1_; have HB := n2_; clear n0_ n1_ n2_; clear hb ho5; obtain ⟨Ao7, co7, eo7⟩ := Kd.R_slice HO252.out; subst eo7) | ((with_reducible refine gate_builtin (b := .append) (xs := #[.tmp 3, .tmp 4]) rfl ?_); at_builtin; refine Kd.R_append_rows (Kd.int .u8) (w0 := w) w.heap.size rfl (.tmp 3) (.tmp 4) 29 5 (.int .u8 0) 1 rfl Try.underlying29 info5 rfl (by decide) (by omega) v248 y247 y250 _ _ _ (fun k_ => some k_ ≠ (.slice Ao7 y250.length co7 : Value).ownBlock) (fun _ => False) rfl rfl ?aO ?aR (fun _ _ h => h) (fun _ h => h.elim) ?aF ?aB ?aS ?aL ?_; (case aR => repeat (first | exact (Kd.R_reads' HO252.out).2.2 | (with_reducible refine Kd.C_alloc ?_ _) | (with_reducible refine Kd.C_drewN ?_ _) | (with_reducible refine Kd.C_drew ?_))); (case aB => exact (by repeat (first | (with_reducible first | exact HB.out | apply below_alloc | apply pw_below_drewN | apply below_drew1) | exact HB.out))); (case aF => exact (fun k_ hk => Kd.fresh' (Kd.R_lt (by (with_reducible repeat (first | apply Kd.R_alloc | apply Kd.R_drewN | apply Kd.R_drew)); exact HO252.out)) k_ hk)); (case aO => exact (by (with_reducible repeat (first | apply Kd.R_alloc | apply Kd.R_drewN | apply Kd.R_drew)); exact Kd.R_mono HO249.out (fun _ hk => hk.2))); (case aS => exact (below_size (by repeat (first | (with_reducible first | exact HB.out | apply below_alloc | apply pw_below_drewN | apply below_drew1) | exact HB.out)))); (case aL => have := LMc1.out; omega); intro v254 w6 ho hb hg hat; rw [← Ny253.out] at ho; have n0_ := Aside0.mk (Kd.R_after (ok := (fun _ => True)) (by (with_reducible repeat (first | apply Kd.R_alloc | apply Kd.R_drewN | apply Kd.R_drew)); exact HO252.out) hg hat); have n1_ := Aside0.mk (hb); have n2_ := Aside0.mk (ho); clear HO252; clear HB; clear HO249; have HO252 := n0_; have HB := n1_; have HO255 := n2_; clear n0_ n1_ n2_; clear ho hb hg hat))
    go_ret
    exact ⟨_, by first | rfl | (simp [errW_none, errW_some] <;> rfl) | (simp [*, errW_none, errW_some] <;> rfl), by (with_reducible repeat (first | apply Kd.R_alloc | apply Kd.R_drewN | apply Kd.R_drew)); exact Kd.R_mono HO255.out (fun _ hk => trivial), by repeat (first | (with_reducible first | exact HB.out | apply below_alloc | apply pw_below_drewN | apply below_drew1) | exact HB.out)⟩
  · rw [if_neg c1] at H
    exact absurd H (by simp)

end Go.Proofs.Ytiejallnkgllnaa.LQ
