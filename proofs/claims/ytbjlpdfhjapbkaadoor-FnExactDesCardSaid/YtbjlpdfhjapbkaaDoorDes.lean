/- Contract of impl.des: DES of a block. Conditions: blocks of 8 bytes; the tables lie there. -/
import Derived.Test.YtbjlpdfhjapbkaaDoorRoundKeys
import Derived.Test.YtbjlpdfhjapbkaaDoorBoxed
import Derived.Test.YtbjlpdfhjapbkaaDoorBlockOf
namespace Go.Proofs.YtbjlpdfhjapbkaaDoor
open Go.RowKit Go.Proofs.YtbjlpdfhjapbkaaDoorW.PrintWords Go.Proofs.YtbjlpdfhjapbkaaDoorW.PrintLast Go.Proofs.YtbjlpdfhjapbkaaDoorW.PrintMore Go.Proofs.YtbjlpdfhjapbkaaDoor.D Go.Proofs.YtbjlpdfhjapbkaaDoor.B
set_option linter.unusedVariables false

theorem dir_key (dec : Bool) (ks : List (List Int)) (hl : ks.length = 16) (hg : ∀ k ∈ ks, Bits k ∧ k.length = 48) (i : Nat) (hi : i < 16) :
    ∃ kk, (dirB dec ks).take (i + 1) = (dirB dec ks).take i ++ [kk] ∧ Bits kk ∧ kk.length = 48 ∧ num kk = (if dec = true then nth (ks.map num) (15 - i) else nth (ks.map num) i) := by
  have hdl : (dirB dec ks).length = 16 := by unfold dirB; split <;> simp [hl]
  have hm : (dirB dec ks)[i]'(by omega) ∈ dirB dec ks := List.getElem_mem _
  have hd := dirB_good (dec := dec) hg _ hm
  refine ⟨(dirB dec ks)[i]'(by omega), List.take_succ_eq_append_getElem (by omega), hd.1, hd.2, ?_⟩
  have e1 : ∀ j, (hj : j < 16) → nth (ks.map num) j = num (ks[j]'(by omega)) := by
    intro j hj
    rw [nth_at _ _ (by rw [List.length_map]; omega), List.getElem_map]
  rw [e1 _ (by omega), e1 _ hi]
  cases dec
  · simp only [Bool.false_eq_true, if_false]
    rfl
  · simp only [if_true]
    congr 1
    show ks.reverse[i]'(by simp [hl]; omega) = _
    rw [List.getElem_reverse]
    congr 1
    omega
set_option maxHeartbeats 4000000 in
theorem impl_des.calls (key block : List Int) (dec : Bool) (w : World) (hk : key.length = 8) (hkb : Bytes key) (h8 : block.length = 8) (hb : Bytes block) (ht : Tab w) :
    Calls Tryd.prog 36 #[.agg (nums .u8 key).toArray, .agg (nums .u8 block).toArray, .bool dec] w fun e w' => e = .returned (.agg (nums .u8 (desL key block dec)).toArray) ∧ Below w.heap.size w w' := by
  obtain ⟨k0, k1, k2, k3, k4, k5, k6, k7, t, rfl⟩ := list8 (l := block) (by omega)
  obtain rfl : t = [] := List.length_eq_zero_iff.1 (by simpa using h8)
  have HT := Aside0.mk ht
  have HK := Aside0.mk hk
  have KN := Aside0.mk (fun (w1 : World) => impl_number.calls [k0, k1, k2, k3, k4, k5, k6, k7] w1 h8 hb)
  have KR := Aside0.mk (fun (w1 : World) => impl_roundKeys.calls key w1 hk hkb)
  have hk64 : (bitsOf [k0, k1, k2, k3, k4, k5, k6, k7]).length = 64 := by rw [bitsOf_length, h8]
  have hpick := impl_pick_eq (bitsOf [k0, k1, k2, k3, k4, k5, k6, k7]) tIP (bitsOf_bits _) (by rw [hk64]; omega) (by decide) (by rw [hk64]; exact within_ip) 100 (by decide)
  rw [hk64] at hpick
  obtain ⟨A1, c1, hcell, hle, hC⟩ := HT.out.ip
  have KP := Aside0.mk (fun (w1 : World) (hC1 : Kd.C (Kd.int .u8) w1 A1 tIP.length tIP) => impl_pick_byte.calls 100 (num (bitsOf [k0, k1, k2, k3, k4, k5, k6, k7])) 64 A1 c1 tIP _ w1 hC1 hle hpick)
  have hlt := World.block_lt_of_cell? w _ hcell
  have HC1 := Aside0.mk hC
  have HLE1 := Aside0.mk hle
  have hcellw := Aside0.mk hcell
  obtain ⟨bb, hbb⟩ : ∃ bb, bb = bitsOf [k0, k1, k2, k3, k4, k5, k6, k7] := ⟨_, rfl⟩
  have HBB : Aside0 (bb = bitsOf [k0, k1, k2, k3, k4, k5, k6, k7] ∧ Bits bb ∧ bb.length = 64) := ⟨hbb, hbb ▸ bitsOf_bits _, hbb ▸ hk64⟩
  clear hk hkb h8 hb ht hk64 hpick hC hcell hle hbb
  go_enter Tryd.func36, Tryd.ntmps36
  have B0 : Blk (w.alloc (.cells (nums .u8 key).toArray 38)) w.heap.size .u8 38 key := blk_new w _
  have B1 : Blk ((w.alloc (.cells (nums .u8 key).toArray 38)).alloc (.cells (nums .u8 [k0, k1, k2, k3, k4, k5, k6, k7]).toArray 38)) (w.heap.size + 1) .u8 38 [k0, k1, k2, k3, k4, k5, k6, k7] := by
    have h_ := blk_new (w.alloc (.cells (nums .u8 key).toArray 38)) (.cells (nums .u8 [k0, k1, k2, k3, k4, k5, k6, k7]).toArray 38)
    simpa [Blk] using h_
  have BW : Below w.heap.size w (((w.alloc (.cells (nums .u8 key).toArray 38)).alloc (.cells (nums .u8 [k0, k1, k2, k3, k4, k5, k6, k7]).toArray 38)).alloc (.cells #[.int .u8 0, .int .u8 0, .int .u8 0, .int .u8 0, .int .u8 0, .int .u8 0, .int .u8 0, .int .u8 0] 38)) := (((Below.refl _ _).alloc (Nat.le_refl _) _).alloc (by simp) _).alloc (by simp; omega) _
  have B2 : Blk (((w.alloc (.cells (nums .u8 key).toArray 38)).alloc (.cells (nums .u8 [k0, k1, k2, k3, k4, k5, k6, k7]).toArray 38)).alloc (.cells #[.int .u8 0, .int .u8 0, .int .u8 0, .int .u8 0, .int .u8 0, .int .u8 0, .int .u8 0, .int .u8 0] 38)) (w.heap.size + 1 + 1) .u8 38 [0, 0, 0, 0, 0, 0, 0, 0] := by
    have h_ := blk_new ((w.alloc (.cells (nums .u8 key).toArray 38)).alloc (.cells (nums .u8 [k0, k1, k2, k3, k4, k5, k6, k7]).toArray 38)) (.cells #[.int .u8 0, .int .u8 0, .int .u8 0, .int .u8 0, .int .u8 0, .int .u8 0, .int .u8 0, .int .u8 0] 38)
    simpa [Blk, nums] using h_
  have B01 := Aside0.mk ((B0.alloc (.cells (nums .u8 [k0, k1, k2, k3, k4, k5, k6, k7]).toArray 38)).alloc (.cells #[.int .u8 0, .int .u8 0, .int .u8 0, .int .u8 0, .int .u8 0, .int .u8 0, .int .u8 0, .int .u8 0] 38))
  have B11 := Aside0.mk (B1.alloc (.cells #[.int .u8 0, .int .u8 0, .int .u8 0, .int .u8 0, .int .u8 0, .int .u8 0, .int .u8 0, .int .u8 0] 38))
  have B21 := Aside0.mk B2
  have BW1 := Aside0.mk BW
  clear B0 B1 B2 BW
  have HKS : Aside0 (((keysB key).map num).length = 16) := ⟨by rw [List.length_map, keysB_length]⟩
  obtain ⟨ks, hks⟩ : ∃ ks, ks = keysB key := ⟨_, rfl⟩
  have HKG : Aside0 (ks = keysB key ∧ (∀ k ∈ ks, Bits k ∧ k.length = 48) ∧ ks.length = 16) := ⟨hks, hks ▸ keysB_good key, hks ▸ keysB_length key⟩
  rw [← hks] at KR HKS
  clear hks
  go_upto_region 2 with (first | ((with_reducible refine wpList_load_blk rfl 38 (.tmp 3) rfl w.heap.size rfl Tryd.underlying38 info8 B01.out HK.out ?_)) | (go_at_call 64; go_must (refine (KR.out _ ?tt).mono ?_; (case tt => exact HT.out.below BW1.out); rintro e w1 ⟨rfl, hb1⟩; have HN : Aside0 (Blk (w1.alloc (.cells #[.int .u64 0, .int .u64 0, .int .u64 0, .int .u64 0, .int .u64 0, .int .u64 0, .int .u64 0, .int .u64 0, .int .u64 0, .int .u64 0, .int .u64 0, .int .u64 0, .int .u64 0, .int .u64 0, .int .u64 0, .int .u64 0] 70)) w1.heap.size .u64 70 (List.replicate 16 0)) := ⟨blk_new w1 (.cells (nums .u64 (List.replicate 16 0)).toArray 70)⟩; have F1 := Aside0.mk (HN.out.setRow (ks.map num)); have h11 := B11.out.below hb1; have h21 := B21.out.below hb1; have hbw := below_step BW1.out hb1; have l11 := h11.lt; have l21 := h21.lt; have F2 := Aside0.mk ((h11.alloc (.cells #[.int .u64 0, .int .u64 0, .int .u64 0, .int .u64 0, .int .u64 0, .int .u64 0, .int .u64 0, .int .u64 0, .int .u64 0, .int .u64 0, .int .u64 0, .int .u64 0, .int .u64 0, .int .u64 0, .int .u64 0, .int .u64 0] 70)).setRow_far (g' := w1.heap.size) (by omega) (nums .u64 (ks.map num)).toArray); have F3 := Aside0.mk ((h21.alloc (.cells #[.int .u64 0, .int .u64 0, .int .u64 0, .int .u64 0, .int .u64 0, .int .u64 0, .int .u64 0, .int .u64 0, .int .u64 0, .int .u64 0, .int .u64 0, .int .u64 0, .int .u64 0, .int .u64 0, .int .u64 0, .int .u64 0] 70)).setRow_far (g' := w1.heap.size) (by omega) (nums .u64 (ks.map num)).toArray); have F4 := Aside0.mk (below_setRow (g := w1.heap.size) (hbw.alloc hbw.size (.cells #[.int .u64 0, .int .u64 0, .int .u64 0, .int .u64 0, .int .u64 0, .int .u64 0, .int .u64 0, .int .u64 0, .int .u64 0, .int .u64 0, .int .u64 0, .int .u64 0, .int .u64 0, .int .u64 0, .int .u64 0, .int .u64 0] 70)) hbw.size (nums .u64 (ks.map num)).toArray); clear h11 h21 hbw hb1 B01 B11 B21 BW1)) | (with_reducible refine wpList_store_blk rfl 70 (.tmp 7) (.tmp 14) rfl w1.heap.size rfl info70 rfl HN.out (by simp) HKS.out ?_))
  obtain ⟨W, hW⟩ : ∃ W, W = (w1.alloc (.cells #[.int .u64 0, .int .u64 0, .int .u64 0, .int .u64 0, .int .u64 0, .int .u64 0, .int .u64 0, .int .u64 0, .int .u64 0, .int .u64 0, .int .u64 0, .int .u64 0, .int .u64 0, .int .u64 0, .int .u64 0, .int .u64 0] 70)).setRow w1.heap.size (nums .u64 (ks.map num)).toArray := ⟨_, rfl⟩
  rw [← hW] at F1 F2 F3 F4 ⊢
  clear hW HN
  obtain ⟨gk, hgk⟩ : ∃ gk, gk = w1.heap.size := ⟨_, rfl⟩
  rw [← hgk] at F1 ⊢
  clear hgk
  have hb0 := F2.out.lt
  have hcellW := (F4.out.cell hlt).trans hcellw.out
  have HC1W := Aside0.mk (Kd.C_below HC1.out F4.out)
  have q0 := F2.out.cell 0 (by simp)
  have q1 := F2.out.cell 1 (by simp)
  have q2 := F2.out.cell 2 (by simp)
  have q3 := F2.out.cell 3 (by simp)
  have q4 := F2.out.cell 4 (by simp)
  have q5 := F2.out.cell 5 (by simp)
  have q6 := F2.out.cell 6 (by simp)
  have q7 := F2.out.cell 7 (by simp)
  simp only [nth, List.getD_cons_zero, List.getD_cons_succ] at q0 q1 q2 q3 q4 q5 q6 q7
  (try go_simp)
  go_cut [8] from 13 (fun s8 wc => s8 = .int .u64 (num (pickB bb tIP)) ∧ Aside0 (Blk wc gk .u64 70 (ks.map num)) ∧ Aside0 (Blk wc (w.heap.size + 1 + 1) .u8 38 [0, 0, 0, 0, 0, 0, 0, 0]) ∧ Aside0 (Below w.heap.size w wc))
  case first =>
    go_region_with (first | (go_at_call 57; go_must (refine (KN.out _).mono ?_; rintro e w1 ⟨rfl, hb1⟩; have hcellW1 := (hb1.cell (World.block_lt_of_cell? _ _ hcellW)).trans hcellW; have HB1 := Aside0.mk (below_then (below_drew1 (Below.refl W.heap.size W)) (Nat.le_refl _) hb1); clear hb1)) | (go_at_call 65; go_must (refine (KP.out _ (Kd.C_below HC1W.out HB1.out)).mono ?_; rintro e w2 ⟨rfl, hd2⟩; have HD2 := Aside0.mk (below_then HB1.out HB1.out.size hd2.below); clear hd2)))
    all_goals go_wp2
    all_goals go_meet
    all_goals (case rel => exact ⟨by rw [HBB.out.1], ⟨F1.out.below HD2.out⟩, ⟨F3.out.below HD2.out⟩, ⟨below_step F4.out HD2.out⟩⟩)
  case rest =>
    obtain ⟨rfl, H1, H2, H3⟩ := hcut
    obtain ⟨vb, hvb⟩ : ∃ vb, vb = pickB bb tIP := ⟨_, rfl⟩
    rw [← hvb]
    have hvbb : Bits vb := hvb ▸ pickB_bits HBB.out.2.1 _
    have hvbl : vb.length = 64 := by rw [hvb, pickB_length]; rfl
    have hbd := num_bound vb hvbb
    rw [hvbl] at hbd
    have hsh : num vb / 4294967296 = num (vb.take 32) := by have := num_div vb hvbb 32 (by omega); rw [hvbl] at this; exact this
    have han : Go.bits .and .u64 (num vb) 4294967295 = num (vb.drop 32) := by rw [and32 _ hbd.1 hbd.2]; have := num_mod vb hvbb 32 (by omega); rw [hvbl] at this; exact this
    obtain ⟨l0, hl0⟩ : ∃ l0, l0 = vb.take 32 := ⟨_, rfl⟩
    obtain ⟨r0, hr0⟩ : ∃ r0, r0 = vb.drop 32 := ⟨_, rfl⟩
    have HP0 : Aside0 (l0.length = 32 ∧ r0.length = 32 ∧ Bits l0 ∧ Bits r0) := ⟨by rw [hl0, hr0]; exact ⟨by rw [List.length_take]; omega, by rw [List.length_drop]; omega, hvbb.take _, hvbb.drop _⟩⟩
    have HE0 : Aside0 (unbits (pickB ((feist (dirB dec ks) (l0, r0)).2 ++ (feist (dirB dec ks) (l0, r0)).1) tINV) = desL key [k0, k1, k2, k3, k4, k5, k6, k7] dec) := ⟨by rw [hl0, hr0, hvb, HBB.out.1, HKG.out.1]; rfl⟩
    rw [← hl0] at hsh
    rw [← hr0] at han
    obtain ⟨x, hx⟩ : ∃ x, x = num vb := ⟨_, rfl⟩
    rw [← hx] at hsh han hbd ⊢
    obtain ⟨hbd0, hbd1⟩ := hbd
    clear hvb hvbb hvbl hl0 hr0 hx KN KP q0 q1 q2 q3 q4 q5 q6 q7 hcellW HC1W F1 F2 F3 F4 KR
    obtain ⟨dks, hdks⟩ : ∃ dks, dks = dirB dec ks := ⟨_, rfl⟩
    have HDK : Aside0 (dks = dirB dec ks) := ⟨hdks⟩
    clear hdks
    go_wp2
    go_loopw [9, 10, 11, 12, 23] (fun v9 v10 v11 v12 v23 wr => ∃ i : Nat, i ≤ 16 ∧ v23 = .int .i64 i ∧ v9 = .int .u64 (num (feist (dks.take i) (l0, r0)).1) ∧ v10 = .int .u64 (num (feist (dks.take i) (l0, r0)).2) ∧ Aside0 (Blk wr gk .u64 70 (ks.map num)) ∧ Aside0 (Blk wr (w.heap.size + 1 + 1) .u8 38 [0, 0, 0, 0, 0, 0, 0, 0]) ∧ Aside0 (Below w.heap.size w wr))
      (fun _ _ _ _ v23 _ => 16 - (intOf v23).toNat)
    case atStart => exact ⟨0, by omega, rfl, rfl, rfl, H1, H2, H3⟩
    case round =>
      obtain ⟨i, hi, rfl, rfl, rfl, G1, G2, G3⟩ := hrel
      clear hsh han
      by_cases hlt : i < 16
      · obtain ⟨kk, t1, t2, t3, t4⟩ := dir_key dec ks HKG.out.2.2 HKG.out.2.1 i hlt
        rw [← HDK.out] at t1
        obtain ⟨g1, g2, g3, g4⟩ := feist_good (dks.take i) (l0, r0) HP0.out.1 HP0.out.2.1 HP0.out.2.2.1 HP0.out.2.2.2
        have hf : feist (dks.take (i + 1)) (l0, r0) = ((feist (dks.take i) (l0, r0)).2, xorB (feist (dks.take i) (l0, r0)).1 (roundB (feist (dks.take i) (l0, r0)).2 kk)) := by rw [t1, feist_append]; rfl
        have HF := Aside0.mk hf
        clear hf t1
        obtain ⟨pl, hpl⟩ : ∃ pl, pl = (feist (dks.take i) (l0, r0)).1 := ⟨_, rfl⟩
        obtain ⟨pr, hpr⟩ : ∃ pr, pr = (feist (dks.take i) (l0, r0)).2 := ⟨_, rfl⟩
        rw [← hpl] at g1 g3 HF ⊢
        rw [← hpr] at g2 g4 HF ⊢
        clear hpl hpr
        have hx1 := xor_num (pickB pr tE) kk (by rw [pickB_length, t3]; rfl) (by rw [pickB_length]; decide) (pickB_bits g4 _) t2
        have hbits1 := xorB_bits (pickB pr tE) kk
        have hlen1 : (xorB (pickB pr tE) kk).length = 48 := by rw [xorB_length _ _ (by rw [pickB_length, t3]; rfl), pickB_length]; rfl
        have hx2 := xor_num pl (roundB pr kk) (by rw [roundB_length, g1]) (by omega) g3 (roundB_bits pr kk)
        have hpick := impl_pick_eq pr tE g4 (by omega) (by decide) (by rw [g2]; exact within_e) 100 (by decide)
        rw [g2] at hpick
        have hHT := HT.out.below G3.out
        obtain ⟨A2, c2, hcell2, hle2, hC2⟩ := hHT.e
        have KP := Aside0.mk (fun (w1 : World) (hC1 : Kd.C (Kd.int .u8) w1 A2 tE.length tE) => impl_pick_byte.calls 100 (num pr) 32 A2 c2 tE _ w1 hC1 hle2 hpick)
        have KB := Aside0.mk (fun (w1 : World) (h : Tab w1) => impl_boxed.calls (xorB (pickB pr tE) kk) w1 hbits1 hlen1 h)
        have HC2 := Aside0.mk hC2
        have HTR := Aside0.mk hHT
        have hlk : (ks.map num).length = 16 := by rw [List.length_map]; exact HKG.out.2.2
        have hc1 := G1.out.cell i (by omega)
        have hc2 := G1.out.cell (15 - i) (by omega)
        have e15 : (15 - (i : Int)).toNat = 15 - i := by omega
        obtain ⟨nr, hnr⟩ : ∃ n, n = num pr := ⟨_, rfl⟩
        obtain ⟨nl, hnl⟩ : ∃ n, n = num pl := ⟨_, rfl⟩
        obtain ⟨nk, hnk⟩ : ∃ n, n = num kk := ⟨_, rfl⟩
        obtain ⟨n2, hn2⟩ : ∃ n, n = num (xorB pl (roundB pr kk)) := ⟨_, rfl⟩
        have HN2 : Aside0 (nr = num (feist (dks.take (i + 1)) (l0, r0)).1 ∧ n2 = num (feist (dks.take (i + 1)) (l0, r0)).2) := ⟨by rw [HF.out]; exact ⟨hnr, hn2⟩⟩
        obtain ⟨nx, hnx⟩ : ∃ n, n = num (xorB (pickB pr tE) kk) := ⟨_, rfl⟩
        obtain ⟨ne, hne⟩ : ∃ n, n = num (pickB pr tE) := ⟨_, rfl⟩
        obtain ⟨nb, hnb⟩ : ∃ n, n = num (roundB pr kk) := ⟨_, rfl⟩
        have hrb : pickB (boxesB (xorB (pickB pr tE) kk)) tP = roundB pr kk := rfl
        rw [hrb, ← hnb, ← hnx] at KB
        rw [← hnr, ← hne] at KP
        rw [← hne, ← hnk, ← hnx] at hx1
        rw [← hnl, ← hnb, ← hn2] at hx2
        rw [← hnr, ← hnl]
        rw [← hnk] at t4
        clear hnr hnl hnk hn2 hnx hne hnb hrb hHT hle2 hC2 hbits1 hlen1 hpick g1 g2 g3 g4 t2 t3 hlk HF
        cases dec
        all_goals
          simp only [if_true, if_false, Bool.false_eq_true] at t4
          first | rw [← t4] at hc1 | rw [← t4] at hc2
          clear t4
          go_wp2_with (first | (go_at_call 65; go_must (refine (KP.out _ ?cc).mono ?_; (case cc => exact HC2.out); rintro e w2 ⟨rfl, ⟨nd, rfl⟩⟩)) | (go_at_call 66; go_must (refine (KB.out _ ?cc2).mono ?_; (case cc2 => exact HTR.out.below (pw_below_drewN (Below.refl _ _) _)); rintro e w2 ⟨rfl, ⟨nd2, rfl⟩⟩)))
          go_roundw
          case rel => exact ⟨i + 1, by omega, by go_num, by rw [← HN2.out.1], by rw [← HN2.out.2], ⟨G1.out.below (pw_below_drewN (Below.refl _ _) _)⟩, ⟨G2.out.below (pw_below_drewN (Below.refl _ _) _)⟩, ⟨pw_below_drewN G3.out _⟩⟩
          case measure => simp [intOf]; omega
      · obtain rfl : i = 16 := by omega
        have hdl : dks.length = 16 := by rw [HDK.out]; unfold dirB; split <;> simp [HKG.out.2.2]
        rw [← HDK.out] at HE0
        rw [List.take_of_length_le (by omega)]
        obtain ⟨g1, g2, g3, g4⟩ := feist_good dks (l0, r0) HP0.out.1 HP0.out.2.1 HP0.out.2.2.1 HP0.out.2.2.2
        obtain ⟨pl, hpl⟩ : ∃ pl, pl = (feist dks (l0, r0)).1 := ⟨_, rfl⟩
        obtain ⟨pr, hpr⟩ : ∃ pr, pr = (feist dks (l0, r0)).2 := ⟨_, rfl⟩
        rw [← hpl, ← hpr] at HE0
        rw [← hpl] at g1 g3 ⊢
        rw [← hpr] at g2 g4 ⊢
        clear hpl hpr hdl
        have hbl := num_bound pl g3
        have hbr := num_bound pr g4
        rw [g1] at hbl
        rw [g2] at hbr
        have hor : Go.bits .or .u64 (num pr * 4294967296) (num pl) = num (pr ++ pl) := by
          rw [num_append, g1]
          exact or_join (num pr) (num pl) 32 (by omega) hbr.1 hbl.1 hbl.2 (by omega)
        have hab : Bits (pr ++ pl) := g4.append g3
        have hal : (pr ++ pl).length = 64 := by rw [List.length_append]; omega
        have hpick := impl_pick_eq (pr ++ pl) tINV hab (by omega) (by decide) (by rw [hal]; exact within_inv) 100 (by decide)
        rw [hal] at hpick
        have hHT := HT.out.below G3.out
        obtain ⟨A2, c2, hcell2, hle2, hC2⟩ := hHT.ip
        have KI := Aside0.mk (fun (w1 : World) (hC1 : Kd.C (Kd.int .u8) w1 A2 tIP.length tIP) => impl_inverse.calls 100 A2 c2 tIP tINV w1 hC1 hle2 inverse_eq)
        have KP := Aside0.mk (fun (A : Option Addr) (c : Nat) (w1 : World) (hC1 : Kd.C (Kd.int .u8) w1 A tINV.length tINV) (hl : tINV.length ≤ c) => impl_pick_byte.calls 100 (num (pr ++ pl)) 64 A c tINV _ w1 hC1 hl hpick)
        have KO := Aside0.mk (fun (w1 : World) => impl_blockOf.calls (pickB (pr ++ pl) tINV) w1 (by rw [pickB_length]; rfl) (pickB_bits hab _))
        have HC2 := Aside0.mk hC2
        have HL : Aside0 ((unbits (pickB (pr ++ pl) tINV)).length = 8) := ⟨unbits_length 8 _ (by rw [pickB_length]; rfl)⟩
        obtain ⟨np, hnp⟩ : ∃ n, n = num (pr ++ pl) := ⟨_, rfl⟩
        obtain ⟨nl, hnl⟩ : ∃ n, n = num pl := ⟨_, rfl⟩
        obtain ⟨nr, hnr⟩ : ∃ n, n = num pr := ⟨_, rfl⟩
        obtain ⟨res, hres⟩ : ∃ n, n = unbits (pickB (pr ++ pl) tINV) := ⟨_, rfl⟩
        rw [← hnp] at KP hor
        rw [← hnl] at hbl hor ⊢
        rw [← hnr] at hbr hor ⊢
        rw [← hres] at KO HE0 HL
        clear hnp hnl hnr hres g1 g2 g3 g4 hab hal hpick hHT hle2 hC2
        obtain ⟨hl0_, hl1_⟩ := hbl
        obtain ⟨hr0_, hr1_⟩ := hbr
        have e32 : (2 : Int) ^ 32 = 4294967296 := rfl
        rw [e32] at hl1_ hr1_
        clear e32
        go_wp2_with (first | (go_at_call 67; go_must (refine (KI.out _ ?cc).mono ?_; (case cc => exact HC2.out); rintro e w2 ⟨v2, rfl, hR2, hb2⟩; obtain ⟨A3, c3, e3⟩ := Kd.R_slice hR2; subst e3; have HR2 := Aside0.mk (Kd.R_reads' hR2).2; have HB2 := Aside0.mk hb2; clear hR2 hb2)) | (go_at_call 65; go_must (refine (KP.out _ _ _ ?cc3 ?cc4).mono ?_; (case cc3 => exact HR2.out.2); (case cc4 => exact HR2.out.1); rintro e w3 ⟨rfl, ⟨nd, rfl⟩⟩)) | (go_at_call 59; go_must (refine (KO.out _).mono ?_; rintro e w4 ⟨rfl, hb4⟩; have HB4 := Aside0.mk (below_then HB2.out HB2.out.size (below_then (pw_below_drewN (Below.refl _ _) nd) (Nat.le_refl _) hb4)); have HZ := Aside0.mk (G2.out.below HB4.out); clear hb4)) | (with_reducible refine wpList_store_blk rfl 38 (.tmp 6) (.tmp 51) rfl (w.heap.size + 1 + 1) rfl info8 rfl HZ.out (by simp) HL.out ?_))
        rw [← HE0.out]
        refine bodyPost_ret (results_blk rfl _ _ (w.heap.size + 1 + 1) Tryd.underlying38 info8 rfl (HZ.out.setRow _) HL.out) rfl ⟨rfl, below_setRow (below_step G3.out HB4.out) (by omega) _⟩
end Go.Proofs.YtbjlpdfhjapbkaaDoor
