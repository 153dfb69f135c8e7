/- Contracts of impl.DukptKey. Conditions: bytes; the tables lie there. -/
import Derived.Test.YtbjlpdfhjapbkaaDoorHalf
import Derived.WalkMore
import Derived.Scope
namespace Go.Proofs.YtbjlpdfhjapbkaaDoor
open Go.RowKit Go.Proofs.YtbjlpdfhjapbkaaDoorW.PrintWords Go.Proofs.YtbjlpdfhjapbkaaDoorW.PrintLast Go.Proofs.YtbjlpdfhjapbkaaDoorW.PrintMore Go.Proofs.YtbjlpdfhjapbkaaDoor.D
open Go.Proofs.YtbjlpdfhjapbkaaDoor.B (xorL xorL_length)
set_option linter.unusedVariables false

theorem blk_one {w : World} {g : Nat} {t : TypeId} {v : Int} (h : Blk w g .u64 t [v]) : w.cell? ⟨g, 0, none⟩ = some (.int .u64 v) := by
  have := h.cell 0 (by simp)
  simpa [nth] using this
theorem wpList_append_full {P : Program} {ops : Array Oper} {rest : List Oper} {o : Oper} {a : Act} {w : World} {Q : Exit → Act → World → Prop} (hgd : o.guard = none) (s x : Operand) (t e tt : TypeId) (bytes : Nat) (z : Value)
    (ho : o.op = .call { callee := .builtin .append, args := #[s, x], argTypes := #[t, t] }) (ht : P.underlying t = some (.slice e)) (hinfo : (P.info? e).map (fun i => (i.zero, i.size, i.bytes)) = some (some z, 1, bytes)) (hz : z.cells.size = 1)
    (g n : Nat) (xs ys : List Int) (A : Option Addr) (m c : Nat) (hs : a.eval s = .slice (some ⟨g, 0, none⟩) n n) (hx : a.eval x = .slice A m c) (hB : Blk w g .u8 tt xs) (hn : xs.length = n) (HR : Kd.C (Kd.int .u8) w A m ys) (hm : 0 < m) (hb : (n + m) * bytes ≤ 140737488355328) (hl : n + m ≤ 140737488355328)
    (h : ∀ v1 w1, Kd.R (Kd.int .u8) e w1 w.heap.size (fun _ => True) v1 (xs ++ ys) → w.grownBy w1 none → wpList P ops Q rest (a.put o.dst v1) w1) : wpList P ops Q (o :: rest) a w := by
  obtain ⟨v', w', h1, h2, h3⟩ := run_append_full (P := P) (ty := o.type) t e tt bytes z ht hinfo hz g n xs ys hB hn A m c HR hm hb hl
  refine wpList_plain hgd fun K hK => ?_
  unfold Oper.wp
  simp [execOp, ho, resolve, invoke, builtin, hs, hx, h1, Result.andThen]
  exact hK _ _ (h v' w' h2 h3)
theorem base_rL (ksn : List Int) (h : ksn.length = 10) (hb : Bytes ksn) : (baseL ksn).drop 2 = rL ksn 0 := by
  obtain ⟨k0, k1, k2, k3, k4, k5, k6, k7, k8, k9, rfl⟩ := ten ksn h
  have b7 := hb k7 (by simp)
  have e7 := (and224 k7 b7).1
  have eo := or_low5 (k7 / 32) 0 (by omega) (by omega)
  have e1 : rL [k0, k1, k2, k3, k4, k5, k6, k7, k8, k9] 0 = [k2, k3, k4, k5, k6, Go.bits .or .u8 (Go.bits .and .u8 k7 224) 0, 0, 0] := rfl
  have e2 : (baseL [k0, k1, k2, k3, k4, k5, k6, k7, k8, k9]).drop 2 = [k2, k3, k4, k5, k6, Go.bits .and .u8 k7 224, 0, 0] := rfl
  rw [e1, e2, e7, eo, Int.add_zero]
set_option maxHeartbeats 8000000 in
theorem impl_DukptKey.calls16 (A0 : Option Addr) (c0 : Nat) (l0 : List Int) (A1 : Option Addr) (c1 : Nat) (l1 : List Int) (w : World) (hr0 : Kd.C (Kd.int .u8) w A0 l0.length l0) (hc0 : l0.length ≤ c0) (hr1 : Kd.C (Kd.int .u8) w A1 l1.length l1) (hc1 : l1.length ≤ c1)
    (h0 : l0.length = 16) (hb0 : Bytes l0) (h1 : l1.length = 10) (hb1 : Bytes l1) (ht : Tab8 w) :
    Calls Tryd.prog 32 #[.slice A0 l0.length c0, .slice A1 l1.length c1] w fun e w' => ∃ v0_ : Value, e = .returned (v0_) ∧ Kd.R (Kd.int .u8) 5 w' w.heap.size (fun _ => True) v0_ (dukL l0 l1) ∧ Below w.heap.size w w' := by
  have HT := Aside0.mk ht
  have HR1 := Aside0.mk hr1
  obtain ⟨hbl, hbb⟩ := baseL_good l1 h1 hb1
  obtain ⟨cn1, _, cn3⟩ := cnt_eq l1 h1 hb1
  have KI := Aside0.mk (impl_DukptInitial.calls16 A0 c0 l0 A1 c1 l1 w hr0 hc0 hr1 hc1 h0 hb0 h1 hb1 ht)
  have KC := Aside0.mk (fun (w1 : World) (hC : Kd.C (Kd.int .u8) w1 A1 l1.length l1) => P.impl_counter.calls A1 c1 l1 (cntL l1) (baseL l1) w1 hC hc1 (impl_counter_eq l1 h1 hb1))
  rw [cn1] at KC
  obtain ⟨r1, r2, r3, hg0, hg1⟩ := rL_num l1 h1 hb1 0 (by omega) (by omega)
  have hbr := base_rL l1 h1 hb1
  have KN := Aside0.mk (fun (w1 : World) => impl_number.calls (rL l1 0) w1 r1 r2)
  rw [r3, Int.add_zero] at KN
  have HRN := Aside0.mk (fun (m : Int) (a : 0 ≤ m) (b : m < 2097152) => rL_num l1 h1 hb1 m a b)
  have HKA := Aside0.mk (keyAt_good l0 l1 (cntN l1) h0 h1 hb1 cn3)
  have hK0 : keyAt l0 l1 (cntN l1) 0 = initL l0 l1 := rfl
  rw [← hK0] at KI
  have hKS : ∀ s, keyAt l0 l1 (cntN l1) (s + 1) = if cntN l1 / 2 ^ (20 - s) % 2 = 1 then stepL (keyAt l0 l1 (cntN l1) s) (rL l1 (hi (cntN l1) (20 - s) : Nat)) else keyAt l0 l1 (cntN l1) s := fun s => rfl
  have hDU : dukL l0 l1 = keyAt l0 l1 (cntN l1) 21 := rfl
  rw [hDU]
  obtain ⟨K, hK⟩ : ∃ K, K = keyAt l0 l1 (cntN l1) := ⟨_, rfl⟩
  rw [← hK] at KI HKA hKS ⊢
  obtain ⟨n, hn⟩ : ∃ n, n = cntN l1 := ⟨_, rfl⟩
  rw [← hn] at KC hKS cn3
  obtain ⟨C, hC⟩ : ∃ C, C = highL l1 := ⟨_, rfl⟩
  rw [← hC] at KN HRN hg0 hg1
  obtain ⟨bs, hbs⟩ : ∃ b, b = baseL l1 := ⟨_, rfl⟩
  rw [← hbs] at KC hbr hbl
  obtain ⟨r8, hr8⟩ : ∃ r, r = rL l1 0 := ⟨_, rfl⟩
  rw [← hr8] at KN hbr r1
  have HKS := Aside0.mk hKS
  have HCN := Aside0.mk (And.intro cn3 (And.intro hg0 hg1))
  have HBS := Aside0.mk (And.intro hbl hbr)
  have H01 := Aside0.mk (And.intro h0 h1)
  clear hbs hC hn hK hDU hKS hK0 hbr hbl hbb hb0 hb1 ht hr0 hr1 cn1 cn3 hg0 hg1 r2 r3 hr8
  obtain ⟨p0, p1, p2, p3, p4, p5, p6, p7, rfl⟩ := eight r8 r1
  simp only [nums, List.map_cons, List.map_nil] at KN
  have b0 : ((l0.length : Int) != 16) = false := bne_eq_false_iff_eq.mpr (by omega)
  have b1 : ((l1.length : Int) != 10) = false := bne_eq_false_iff_eq.mpr (by omega)
  have hmf : ∀ (fn : Fn) (first cap : Array Value) (w : World), (Instr.makeFunc fn first cap).run Tryd.prog w = .ok (.func fn first cap) w := fun _ _ _ _ => rfl
  clear h0 h1 r1
  go_enter Tryd.func32, Tryd.ntmps32
  go_wp2
  go_step3
  go_wp2_with (first
    | (go_at_call 28; go_must (refine KI.out.mono ?_; rintro e w1 ⟨v1, rfl, hR, hb⟩; obtain ⟨Ak, ck, ek⟩ := Kd.R_slice hR; subst ek; have HK0 := Aside0.mk hR; have HB1 := Aside0.mk hb; clear hR hb))
    | (go_at_call 52; go_must (refine (KC.out _ ?cc).mono ?_; (case cc => exact Kd.C_below HR1.out HB1.out); rintro e W ⟨v2, rfl, hR, hb⟩; obtain ⟨Ar, cr, er⟩ := Kd.R_slice hR; subst er; have HRR := Aside0.mk hR; have HB2 := Aside0.mk hb; clear hR hb; have hbl := HBS.out.1; obtain ⟨i0_, hi0_, _, hsz_, _⟩ := info_parts info5; obtain ⟨A6, hcut, hA6, hC6⟩ := print_drop_of (P := Tryd.prog) (Value.int .u8) 0 22 5 .i64 Tryd.underlying22 hi0_ hsz_ Ar cr bs 2 (by omega) (by omega) (Kd.R_reads' HRR.out).2.1; have HA6 := Kd.C_of_reads (h1 := fun _ => rfl) (hA6 _ (Kd.reads_of_C (Kd.R_reads' HRR.out).2.2)); have h2t : (2 : Int).toNat = 2 := rfl; rw [h2t, HBS.out.2] at hcut HA6; simp only [List.length_cons, List.length_nil, Nat.zero_add, Nat.reduceAdd] at hcut HA6; obtain ⟨ad, eA6, y0, y1, y2, y3, y4, y5, y6, y7⟩ := cells8 HA6; subst eA6; have hta := fun (c : Nat) (w1 : World) => array_at (P := Tryd.prog) (t := 38) Tryd.underlying38 (Nat.le_refl 8) (some ad) c w1; clear hi0_ hsz_ hA6 hC6 h2t hbl HA6))
    | (go_at_call 57; go_must (refine (KN.out _).mono ?_; rintro e w3 ⟨rfl, hb⟩; have HB3 := Aside0.mk hb; clear hb)))
  go_step3
  have hn0 : hi n 21 = 0 := hi_top n HCN.out.1
  have HG0 := Aside0.mk (show Blk (w3.alloc (.cells #[.int .u64 (C * 2097152)] 55)) w3.heap.size .u64 55 [C * 2097152 + ((hi n (21 - 0) : Nat) : Int)] from by rw [show 21 - 0 = 21 from rfl, hn0]; have h_ := blk_new w3 (.cells (nums .u64 [C * 2097152 + ((0 : Nat) : Int)]).toArray 55); simpa [Blk, nums] using h_)
  have HB4 := Aside0.mk (below_step HB1.out (below_step HB2.out (HB3.out.alloc HB3.out.size (.cells #[.int .u64 (C * 2097152)] 55))))
  have HK4 := Aside0.mk (Kd.R_lower (Kd.R_below HK0.out (below_step HB2.out (HB3.out.alloc HB3.out.size (.cells #[.int .u64 (C * 2097152)] 55)))) (Nat.le_refl w.heap.size))
  have HSZ := Aside0.mk (below_step HB1.out (below_step HB2.out HB3.out)).size
  obtain ⟨V, hV⟩ : ∃ V, V = w3.alloc (.cells #[.int .u64 (C * 2097152)] 55) := ⟨_, rfl⟩
  rw [← hV] at HG0 HB4 HK4 ⊢
  obtain ⟨gR, hgR⟩ : ∃ g, g = w3.heap.size := ⟨_, rfl⟩
  rw [← hgR] at HG0 HSZ ⊢
  have hK16 : (K 0).length = 16 := (HKA.out 0).1
  rw [hK16] at HK4 ⊢
  clear hV hgR hK16 HK0 HB1 HB2 HB3 HRR hcut y0 y1 y2 y3 y4 y5 y6 y7 hta hn0 KI KC KN HR1 HBS b0 b1
  go_wp2_with fail
  go_loopw [5, 10] (fun v5 v10 wr => ∃ s : Nat, s ≤ 21 ∧ v10 = .int .i64 (20 - (s : Int)) ∧ (∃ (A : Option Addr) (c : Nat), v5 = .slice A 16 c ∧ Aside0 (Kd.R (Kd.int .u8) 5 wr w.heap.size (fun _ => True) (.slice A 16 c) (K s))) ∧ Aside0 (Blk wr gR .u64 55 [C * 2097152 + ((hi n (21 - s) : Nat) : Int)]) ∧ Aside0 (Below w.heap.size w wr))
    (fun _ v10 _ => (intOf v10 + 1).toNat)
  case atStart => exact ⟨0, by omega, rfl, ⟨_, _, rfl, HK4⟩, HG0, HB4⟩
  case round =>
    obtain ⟨s, hs, rfl, ⟨A, c, rfl, HK⟩, HG, HB⟩ := hrel
    clear HK4 HG0 HB4
    by_cases hlt : s < 21
    · obtain ⟨j, hj⟩ : ∃ j, j = 20 - s := ⟨_, rfl⟩
      have hj20 : j ≤ 20 := by omega
      have hjs : 20 - (s : Int) = (j : Int) := by omega
      have hst := hi_step n j
      have hks := HKS.out s
      rw [← hj] at hks
      rw [show 21 - s = j + 1 by omega] at HG
      rw [hjs]
      have HS := Aside0.mk (And.intro hj (And.intro hst (And.intro hks hlt)))
      have q0 : decide ((j : Int) ≥ 0) = true := decide_eq_true (by omega)
      have q1 : (0 : Int) ≤ (j : Int) := by omega
      have hcR := HG.out.cell 0 (by simp)
      have hfR := HG.out.free 0
      simp only [nth, List.getD_cons_zero] at hcR
      clear hj hjs hst hks hlt
      have hcast : ((n : Int) / 2 ^ j) = ((n / 2 ^ j : Nat) : Int) := by push_cast; rfl
      have hand : Go.bits .and .u64 ((n : Int) / 2 ^ j) 1 = ((n / 2 ^ j % 2 : Nat) : Int) := by
        have hle : n / 2 ^ j ≤ n := Nat.div_le_self _ _
        have hn21 := HCN.out.1
        rw [hcast]
        obtain ⟨y, hy⟩ : ∃ y, y = n / 2 ^ j := ⟨_, rfl⟩
        rw [← hy] at hle ⊢
        have := bits_mask .u64 64 (by decide) (fun x h0 h1 => by rw [IntKind.wrap_u64]; omega) 1 (by decide) ((y : Nat) : Int) (by omega) (by omega)
        rw [show ((2 : Int) ^ 1 - 1) = 1 from rfl, show ((2 : Int) ^ 1) = 2 from rfl] at this
        rw [this]
        omega
      by_cases hbit : n / 2 ^ j % 2 = 1
      · have hb2 : (Go.bits .and .u64 ((n : Int) / 2 ^ j) 1 == 0) = false := by rw [hand, hbit]; rfl
        have hor := r_or C j (hi n (j + 1)) hj20 HCN.out.2.1 HCN.out.2.2 (n / 2 ^ (j + 1)) rfl (by have := hi_le n (j + 1); have := HCN.out.1; omega)
        have hw2 : IntKind.u64.wrap ((2 : Int) ^ j) = ((2 ^ j : Nat) : Int) := by
          have h64 : (2 : Int) ^ j ≤ 2 ^ 20 := by exact_mod_cast Nat.pow_le_pow_right (by decide) hj20
          have := pow_pos2 j
          rw [IntKind.wrap_u64, Int.emod_eq_of_lt (by omega) (by omega)]
          push_cast
          rfl
        have hhi : hi n (j + 1) + 2 ^ j = hi n j := by rw [HS.out.2.1, hbit, Nat.one_mul]
        rw [hhi, ← hw2] at hor
        obtain ⟨rn, hrn⟩ : ∃ r : Int, r = C * 2097152 + ((hi n j : Nat) : Int) := ⟨_, rfl⟩
        rw [← hrn] at hor
        have HRNN := Aside0.mk hrn
        have HBT := Aside0.mk hbit
        -- the two halves of a step
        have hmj : hi n j < 2097152 := by have := hi_le n j; have := HCN.out.1; omega
        obtain ⟨r1, r2, r3, _⟩ := HRN.out ((hi n j : Nat) : Int) (by omega) (by omega)
        rw [← hrn] at r3
        obtain ⟨k1, k2⟩ := HKA.out s
        obtain ⟨m1, m2⟩ := maskL_good (K s) k1 k2
        have KM := Aside0.mk (fun (w1 : World) (hC : Kd.C (Kd.int .u8) w1 A (K s).length (K s)) (hc : (K s).length ≤ c) => impl_masked.calls A c (K s) mH w1 hC hc (by omega) rfl)
        have hb64 : (bitsOf (rL l1 ((hi n j : Nat) : Int))).length = 64 := by rw [bitsOf_length, r1]
        have KH1 := Aside0.mk (fun (A : Option Addr) (c : Nat) (w1 : World) (hC : Kd.C (Kd.int .u8) w1 A (maskL 0 mH (K s)).length (maskL 0 mH (K s))) (hc : (maskL 0 mH (K s)).length ≤ c) (hR : w1.cell? ⟨gR, 0, none⟩ = some (.int .u64 (num (bitsOf (rL l1 ((hi n j : Nat) : Int)))))) (t1 : Tab w1) => impl_half.calls A c (maskL 0 mH (K s)) gR _ w1 hC hc m1 m2 hb64 (bitsOf_bits _) hR t1)
        have KH2 := Aside0.mk (fun (A : Option Addr) (c : Nat) (w1 : World) (hC : Kd.C (Kd.int .u8) w1 A (K s).length (K s)) (hc : (K s).length ≤ c) (hR : w1.cell? ⟨gR, 0, none⟩ = some (.int .u64 (num (bitsOf (rL l1 ((hi n j : Nat) : Int)))))) (t1 : Tab w1) => impl_half.calls A c (K s) gR _ w1 hC hc k1 k2 hb64 (bitsOf_bits _) hR t1)
        rw [r3, unbits_bitsOf _ r2, m1] at KH1
        rw [r3, unbits_bitsOf _ r2, k1] at KH2
        rw [k1] at KM
        have hs3 := HS.out.2.2.1
        rw [if_pos hbit] at hs3
        have l1_ := (halfL_good _ _ m1 m2 r1).1
        have l2_ := (halfL_good _ _ k1 k2 r1).1
        unfold stepL at hs3
        obtain ⟨H1, hH1⟩ : ∃ h, h = halfL (maskL 0 mH (K s)) (rL l1 ((hi n j : Nat) : Int)) := ⟨_, rfl⟩
        obtain ⟨H2, hH2⟩ : ∃ h, h = halfL (K s) (rL l1 ((hi n j : Nat) : Int)) := ⟨_, rfl⟩
        rw [← hH1] at KH1 hs3 l1_
        rw [← hH2] at KH2 hs3 l2_
        obtain ⟨mk, hmk⟩ : ∃ m, m = maskL 0 mH (K s) := ⟨_, rfl⟩
        rw [← hmk] at KM KH1 m1
        have HL := Aside0.mk (And.intro m1 (And.intro l1_ (And.intro l2_ hs3)))
        clear hcast hand hbit hw2 hhi hmj r1 r2 r3 k1 k2 m1 m2 hb64 hs3 l1_ l2_ hH1 hH2 hmk hrn
        go_wp2_with fail
        go_region
        have hq : ∀ q, q ∈ 5 :: (Kd.int .u8).E → q ≠ 55 := by
          intro q hq
          simp only [Kd.int, Kd.scalar, List.mem_cons, List.not_mem_nil, or_false] at hq
          subst hq
          decide
        have XG := Aside0.mk (show Blk ((wr.setCell ⟨gR, 0, none⟩ (.int .u64 rn)).drew) gR .u64 55 [rn] from HG.out.set 0 rn)
        have XK := Aside0.mk (Kd.R_drew (Kd.R_set HK.out HG.out hq 0 (.int .u64 rn)))
        have XB := Aside0.mk (below_drew1 (HB.out.setCell (p := ⟨gR, 0, none⟩) HSZ.out (.int .u64 rn)))
        obtain ⟨X, hX⟩ : ∃ X, X = (wr.setCell ⟨gR, 0, none⟩ (.int .u64 rn)).drew := ⟨_, rfl⟩
        rw [← hX] at XG XK XB ⊢
        have XM := Aside0.mk (HT.out.below XB.out).m
        have HML : Aside0 ((nums .u8 mH).length = 8) := ⟨rfl⟩
        clear hX hq hcR hfR hor
        go_wp2_with (first
          | (with_reducible refine wpList_load_mid rfl 38 (.global 0) rfl 0 0 rfl (nums .u8 mH) _ XM.out Tryd.underlying38 rfl (by rw [info8, HML.out]) ?_)
          | (go_at_call 53; go_must (refine (KM.out _ ?s1 ?s2).mono ?_; (case s1 => have h_ := (Kd.R_reads' XK.out).2.2; rw [(HKA.out s).1] at h_; exact h_); (case s2 => exact (Kd.R_reads' XK.out).2.1); rintro e w5 ⟨v5, rfl, hR5, hb5⟩; obtain ⟨Am, cm, em⟩ := Kd.R_slice hR5; rw [HL.out.1] at em; subst em; have M5 := Aside0.mk hR5; have B5 := Aside0.mk hb5; clear hR5 hb5))
          | (go_at_call 58; with_reducible refine (KH1.out _ _ _ ?s1 ?s2 ?s3 ?s4).mono ?_; (case s1 => have h_ := (Kd.R_reads' M5.out).2.2; rw [HL.out.1] at h_; exact h_); go_must ((case s2 => exact (Kd.R_reads' M5.out).2.1); (case s3 => exact blk_one (XG.out.below B5.out)); (case s4 => exact (HT.out.below (below_step XB.out B5.out)).t); rintro e w6 ⟨g6, rfl, hg6, hB6, hb6⟩; have M6 := Aside0.mk hB6; have B6 := Aside0.mk (below_step B5.out hb6); clear hB6 hg6 hb6))
          | (go_at_call 58; with_reducible refine (KH2.out _ _ _ ?s1 ?s2 ?s3 ?s4).mono ?_; go_must ((case s1 => have h_ := (Kd.R_reads' (Kd.R_below XK.out B6.out)).2.2; rw [(HKA.out s).1] at h_; exact h_); (case s2 => exact (Kd.R_reads' XK.out).2.1); (case s3 => exact blk_one (XG.out.below B6.out)); (case s4 => exact (HT.out.below (below_step XB.out B6.out)).t); rintro e w7 ⟨g7, rfl, hg7, hB7, hb7⟩; have M7 := Aside0.mk hB7; have M67 := Aside0.mk (M6.out.below hb7); have B7 := Aside0.mk (below_step B6.out hb7); clear hB7 hg7 hb7))
          | ((with_reducible refine gate_builtin (b := .append) (xs := #[.tmp 51, .tmp 54]) rfl ?_); at_builtin; go_must (refine wpList_append_full rfl (.tmp 51) (.tmp 54) 22 5 38 1 (.int .u8 0) rfl Tryd.underlying22 info5 rfl g6 8 H1 H2 _ _ _ rfl rfl M67.out HL.out.2.1 ?aR (by omega) (by omega) (by omega) ?_; (case aR => have hc := (Kd.R_reads' (M7.out.R (n := 8) (Nat.zero_le _) HL.out.2.2.1 (by omega))).2.2; rw [HL.out.2.2.1] at hc; exact hc); intro v8 w8 ho hg; have HV := Aside0.mk (Kd.R_lower ho (below_step XB.out B7.out).size); have B8 := Aside0.mk (B7.out.grown hg B7.out.size (fun _ h => by cases h)); clear ho hg)))
        go_roundw
        case rel =>
          obtain ⟨s1, s2, s3, s4⟩ := HS.out
          obtain ⟨Av, cv, ev⟩ := Kd.R_slice HV.out
          have hvl : (H1 ++ H2).length = 16 := by rw [List.length_append, HL.out.2.1, HL.out.2.2.1]
          rw [hvl] at ev
          subst ev
          exact ⟨s + 1, by omega, by congr 1; omega, ⟨Av, cv, rfl, ⟨by rw [HL.out.2.2.2]; exact HV.out⟩⟩, ⟨by rw [show 21 - (s + 1) = j by omega, ← HRNN.out]; exact XG.out.below B8.out⟩, ⟨below_step XB.out B8.out⟩⟩
        case measure => simp [intOf]
      · have hz : n / 2 ^ j % 2 = 0 := by omega
        have hb2 : (Go.bits .and .u64 ((n : Int) / 2 ^ j) 1 == 0) = true := by rw [hand, hz]; rfl
        have HBT := Aside0.mk (And.intro hbit hz)
        clear hcast hand hbit hz
        go_wp2_with fail
        go_roundw
        case rel =>
          obtain ⟨s1, s2, s3, s4⟩ := HS.out
          rw [HBT.out.2, Nat.zero_mul, Nat.add_zero] at s2
          rw [if_neg HBT.out.1] at s3
          exact ⟨s + 1, by omega, by congr 1; omega, ⟨A, c, rfl, ⟨by rw [s3]; exact HK.out⟩⟩, ⟨by rw [show 21 - (s + 1) = j by omega, s2]; exact HG.out⟩, HB⟩
        case measure => simp [intOf]
    · obtain rfl : s = 21 := by omega
      go_wp2
      rw [Exit.noGoto_ret]
      go_ret
      exact ⟨_, rfl, HK.out, HB.out⟩
end Go.Proofs.YtbjlpdfhjapbkaaDoor
