/- Contract of spec.Des. -/
import Derived.Test.YtbjlpdfhjapbkaaDoorSKeys
import Derived.Test.YtbjlpdfhjapbkaaDoorDesC
import Derived.Test.YtbjlpdfhjapbkaaDoorDesD
namespace Go.Proofs.YtbjlpdfhjapbkaaDoor.D
open Go.Proofs.YtbjlpdfhjapbkaaDoor
set_option linter.unusedVariables false

def outAt (both : List Int) (i : Nat) : List Int := (List.range 64).map fun m => if (nth tINV m).toNat - 1 < i then nth both ((nth tINV m).toNat - 1) else 0
theorem outAt_length (both : List Int) (i : Nat) : (outAt both i).length = 64 := by simp [outAt]
theorem inv_at : ∀ i m : Fin 64, ((nth tINV m.val).toNat - 1 = i.val) = ((nth tIP i.val).toNat - 1 = m.val) := by
  have : ∀ i m : Fin 64, decide ((nth tINV m.val).toNat - 1 = i.val) = decide ((nth tIP i.val).toNat - 1 = m.val) := by decide +kernel
  intro i m
  have h := this i m
  by_cases h1 : (nth tINV m.val).toNat - 1 = i.val
  · have h2 : (nth tIP i.val).toNat - 1 = m.val := of_decide_eq_true (h ▸ decide_eq_true h1)
    simp [h1, h2]
  · have h2 : ¬ (nth tIP i.val).toNat - 1 = m.val := of_decide_eq_false (h ▸ decide_eq_false h1)
    simp [h1, h2]
theorem outAt_zero (both : List Int) : outAt both 0 = List.replicate 64 0 := by
  apply List.ext_getElem
  · simp [outAt]
  · intro i h1 h2
    rw [List.getElem_replicate]
    simp only [outAt, List.getElem_map, List.getElem_range]
    rw [if_neg (Nat.not_lt_zero _)]
theorem outAt_step (both : List Int) (i : Nat) (hi : i < 64) : (outAt both i).set ((nth tIP i).toNat - 1) (nth both i) = outAt both (i + 1) := by
  apply List.ext_getElem
  · simp [outAt]
  · intro m h1 h2
    have hm : m < 64 := by simpa [outAt] using h2
    have h := inv_at ⟨i, hi⟩ ⟨m, hm⟩
    simp only [] at h
    rw [List.getElem_set]
    simp only [outAt, List.getElem_map, List.getElem_range]
    by_cases e : (nth tIP i).toNat - 1 = m
    · have e2 : (nth tINV m).toNat - 1 = i := h ▸ e
      rw [if_pos e, if_pos (by omega), e2]
    · have e2 : ¬ (nth tINV m).toNat - 1 = i := fun x => e (h ▸ x)
      rw [if_neg e]
      by_cases e3 : (nth tINV m).toNat - 1 < i
      · rw [if_pos e3, if_pos (by omega)]
      · rw [if_neg e3, if_neg (by omega)]
theorem outAt_all (both : List Int) : outAt both 64 = pickB both tINV := by
  apply List.ext_getElem
  · simp [outAt, pickB]; rfl
  · intro m h1 h2
    have hm : m < 64 := by simpa [outAt] using h1
    have hs : ∀ m : Fin 64, (nth tINV m.val).toNat - 1 < 64 := by decide +kernel
    simp only [outAt, pickB, List.getElem_map, List.getElem_range]
    rw [if_pos (hs ⟨m, hm⟩), nth_at tINV m hm]
    rfl
theorem dir_list (dec : Bool) (ks : List (List Int)) (hl : ks.length = 16) (hg : ∀ k ∈ ks, Bits k ∧ k.length = 48) (i : Nat) (hi : i < 16) :
    ∃ kk, (dirB dec ks).take (i + 1) = (dirB dec ks).take i ++ [kk] ∧ Bits kk ∧ kk.length = 48 ∧ kk = ks.getD (if dec = true then 15 - i else i) [] := by
  have hdl : (dirB dec ks).length = 16 := by unfold dirB; split <;> simp [hl]
  have hm : (dirB dec ks)[i]'(by omega) ∈ dirB dec ks := List.getElem_mem _
  have hd := dirB_good (dec := dec) hg _ hm
  refine ⟨(dirB dec ks)[i]'(by omega), List.take_succ_eq_append_getElem (by omega), hd.1, hd.2, ?_⟩
  cases dec
  · simp only [Bool.false_eq_true, if_false]
    rw [List.getD_eq_getElem?_getD, List.getElem?_eq_getElem (by omega)]
    rfl
  · simp only [if_true]
    rw [List.getD_eq_getElem?_getD, List.getElem?_eq_getElem (by omega)]
    show ks.reverse[i]'(by simp [hl]; omega) = _
    rw [List.getElem_reverse]
    simp only [Option.getD_some]
    congr 1
    omega
end Go.Proofs.YtbjlpdfhjapbkaaDoor.D
namespace Go.Proofs.YtbjlpdfhjapbkaaDoor
open Go.RowKit Go.Proofs.YtbjlpdfhjapbkaaDoorW.PrintWords Go.Proofs.YtbjlpdfhjapbkaaDoorW.PrintLast Go.Proofs.YtbjlpdfhjapbkaaDoorW.PrintMore Go.Proofs.YtbjlpdfhjapbkaaDoor.D Go.Proofs.YtbjlpdfhjapbkaaDoor.B
set_option linter.unusedVariables false

theorem R_own' {α : Type} {D : Kd α} {w : World} {base n c e : Nat} {ok : Nat → Prop} {A : Option Addr} {xs : List α} (h : Kd.R D e w base ok (.slice A n c) xs) (hp : 0 < xs.length) : ∃ g, A = some ⟨g, 0, none⟩ ∧ base ≤ g := by
  obtain ⟨h0, inner, ho, hr⟩ := h
  obtain ⟨h1, h2⟩ := ho
  rcases h2 with ⟨_, h4⟩ | ⟨g, cap, cur, hv, hb, _⟩
  · omega
  · injection hv with a b
    exact ⟨g, a, hb⟩
/-- A row of rows: where row i lies. -/
theorem row_at {w : World} {g n : Nat} {ks : List (List Int)} (h : Kd.C (Kd.slice 5 (Kd.int .u8)) w (some ⟨g, 0, none⟩) n ks) (i : Nat) (hi : i < n) :
    ∃ A c, w.cell? ⟨g, i, none⟩ = some (.slice A (ks.getD i []).length c) ∧ (ks.getD i []).length ≤ c ∧ Kd.C (Kd.int .u8) w A (ks.getD i []).length (ks.getD i []) := by
  obtain ⟨h1, h2, h3⟩ := h
  obtain ⟨ad, e, hc⟩ := h3 (by omega)
  cases e
  obtain ⟨cs, hl, ⟨A, c, hcs, hle, hC⟩, hcell⟩ := hc i (ks.getD i []) (by rw [List.getElem?_eq_getElem (by omega), List.getD_eq_getElem?_getD, List.getElem?_eq_getElem (by omega)]; rfl)
  subst hcs
  have := hcell 0 _ rfl
  have hs : (Kd.slice 5 (Kd.int .u8)).sz = 1 := rfl
  rw [hs, Addr.add_mid] at this
  exact ⟨A, c, by simpa using this, hle, hC⟩
theorem round32 (A0 : Option Addr) (c0 : Nat) (l0 : List Int) (A1 : Option Addr) (c1 : Nat) (l1 : List Int) (w : World) (hr0 : Kd.C (Kd.int .u8) w A0 32 l0) (hc0 : 32 ≤ c0) (hr1 : Kd.C (Kd.int .u8) w A1 48 l1) (hc1 : 48 ≤ c1)
    (h0 : l0.length = 32) (hb0 : Bits l0) (h1 : l1.length = 48) (hb1 : Bits l1) :
    Calls Tryd.prog 46 #[.slice A0 32 c0, .slice A1 48 c1] w fun e w' => ∃ g c : Nat, e = .returned (.slice (some ⟨g, 0, none⟩) 32 c) ∧ 32 ≤ c ∧ Kd.C (Kd.int .u8) w' (some ⟨g, 0, none⟩) 32 (roundB l0 l1) ∧ Below w.heap.size w w' := by
  have := spec_l1Round.calls0 A0 c0 l0 A1 c1 l1 w (by rw [h0]; exact hr0) (by omega) (by rw [h1]; exact hr1) (by omega) h0 hb0 h1 hb1
  rw [h0, h1] at this
  refine this.mono ?_
  rintro e w' ⟨v, rfl, hR, hb⟩
  obtain ⟨A, c, ee⟩ := Kd.R_slice hR
  subst ee
  obtain ⟨g, eg, _⟩ := R_own' hR (by rw [roundB_length]; decide)
  subst eg
  have hr := (Kd.R_reads' hR).2
  rw [roundB_length] at hr ⊢
  exact ⟨g, c, rfl, hr.1, hr.2, hb⟩
theorem xor32 (A0 : Option Addr) (c0 : Nat) (l0 : List Int) (A1 : Option Addr) (c1 : Nat) (l1 : List Int) (w : World) (hr0 : Kd.C (Kd.int .u8) w A0 32 l0) (hc0 : 32 ≤ c0) (hr1 : Kd.C (Kd.int .u8) w A1 32 l1) (hc1 : 32 ≤ c1)
    (h0 : l0.length = 32) (hb0 : Bits l0) (h1 : l1.length = 32) (hb1 : Bits l1) :
    Calls Tryd.prog 45 #[.slice A0 32 c0, .slice A1 32 c1] w fun e w' => ∃ g c : Nat, e = .returned (.slice (some ⟨g, 0, none⟩) 32 c) ∧ 32 ≤ c ∧ Kd.C (Kd.int .u8) w' (some ⟨g, 0, none⟩) 32 (xorB l0 l1) ∧ Below w.heap.size w w' := by
  have hx := spec_xor_eq l0 l1 (by omega) (by omega) 100 (by omega)
  rw [xorL_bits hb0 hb1] at hx
  have := spec_l1Xor.calls 100 A0 c0 l0 A1 c1 l1 _ w (by rw [h0]; exact hr0) (by omega) (by rw [h1]; exact hr1) (by omega) hx
  rw [h0, h1] at this
  have hl : (xorB l0 l1).length = 32 := by rw [xorB_length _ _ (by omega), h0]
  refine this.mono ?_
  rintro e w' ⟨v, rfl, hR, hb⟩
  obtain ⟨A, c, ee⟩ := Kd.R_slice hR
  subst ee
  obtain ⟨g, eg, _⟩ := R_own' hR (by omega)
  subst eg
  have hr := (Kd.R_reads' hR).2
  rw [hl] at hr ⊢
  exact ⟨g, c, rfl, hr.1, hr.2, hb⟩

theorem bits_call (A0 : Option Addr) (c0 : Nat) (l0 : List Int) (h0 : l0.length = 8) (hc0 : 8 ≤ c0) (hx : spec_l1Bits.f 100 l0 = some (bitsOf l0)) (w : World) (hr0 : Kd.C (Kd.int .u8) w A0 8 l0) :
    Calls Tryd.prog 43 #[.slice A0 8 c0] w fun e w' => ∃ v0_ : Value, e = .returned (v0_) ∧ Kd.R (Kd.int .u8) 5 w' w.heap.size (fun _ => True) v0_ (bitsOf l0) ∧ Below w.heap.size w w' := by
  have := spec_l1Bits.calls 100 A0 c0 l0 _ w (by rw [h0]; exact hr0) (by omega) hx
  rwa [h0] at this
theorem bytes32 (g o cc : Nat) (ci : List Int) (hl : ci.length = 32) (w : World) (h : Kd.C (Kd.int .u8) w (some ⟨g, o, none⟩) 32 ci) (hcc : 32 ≤ cc) :
    Calls Tryd.prog 47 #[.slice (some ⟨g, o, none⟩) 32 cc] w fun e w' => ∃ v0_ : Value, e = .returned (v0_) ∧ Kd.R (Kd.int .u8) 5 w' w.heap.size (fun _ => True) v0_ ci ∧ Below w.heap.size w w' := by
  have := spec_l1Bytes.calls (some ⟨g, o, none⟩) cc ci ci w (by rw [hl]; exact h) (by omega) (by unfold spec_l1Bytes.f; rw [if_pos (by omega)])
  rwa [hl] at this
theorem C_set {w : World} {k : IntKind} {ad p : Addr} {n : Nat} {xs : List Int} (h : Kd.C (Kd.int k) w (some ad) n xs) (hne : p.block ≠ ad.block) (v : Value) : Kd.C (Kd.int k) (w.setCell p v) (some ad) n xs := by
  obtain ⟨h1, h2, h3⟩ := h
  refine ⟨h1, h2, fun hn => ?_⟩
  obtain ⟨ad', e, hc⟩ := h3 hn
  cases e
  refine ⟨ad, rfl, fun j q hq => ?_⟩
  obtain ⟨c, hl, hk, hcell⟩ := hc j q hq
  refine ⟨c, hl, hk, fun i u hu => ?_⟩
  have : (ad.add (j * (Kd.int k).sz + i)).block = ad.block := by unfold Addr.add; split <;> rfl
  rw [World.cell?_setCell_far _ _ _ _ (by rw [this]; exact hne)]
  exact hcell i u hu
theorem int_cell {w : World} {g n : Nat} {l : List Int} (h : Kd.C (Kd.int .i64) w (some ⟨g, 0, none⟩) n l) (j : Nat) (hj : j < n) : w.cell? ⟨g, j, none⟩ = some (.int .i64 (nth l j)) := by
  obtain ⟨h1, h2, h3⟩ := h
  subst h1
  obtain ⟨ad, e, hc⟩ := C_cells (show Kd.C (Kd.int .i64) w (some ⟨g, 0, none⟩) l.length l from ⟨rfl, h2, h3⟩) (by omega)
  cases e
  have := hc j (.int .i64 (nth l j)) (by simp [nums, hj, nth_at _ _ hj])
  rwa [Addr.add_mid, Nat.zero_add] at this
theorem unbits_call (g cc : Nat) (l0 : List Int) (h0 : l0.length = 64) (hc0 : 64 ≤ cc) (hx : spec_l1Unbits.f 100 l0 = some (unbits l0)) (w : World) (hr0 : Kd.C (Kd.int .u8) w (some ⟨g, 0, none⟩) 64 l0) :
    Calls Tryd.prog 48 #[.slice (some ⟨g, 0, none⟩) 64 cc] w fun e w' => ∃ v0_ : Value, e = .returned (v0_) ∧ Kd.R (Kd.int .u8) 5 w' w.heap.size (fun _ => True) v0_ (unbits l0) ∧ Below w.heap.size w w' := by
  have := spec_l1Unbits.calls 100 (some ⟨g, 0, none⟩) cc l0 _ w (by rw [h0]; exact hr0) (by omega) hx
  rwa [h0] at this
set_option maxHeartbeats 1000000 in
theorem spec_Des.calls0 (A0 : Option Addr) (c0 : Nat) (n0 : Nat) (A1 : Option Addr) (c1 : Nat) (n1 : Nat) (dec : Bool) (w : World) (h : ¬ (n0 = 8 ∧ n1 = 8)) :
    Calls Tryd.prog 18 #[.slice A0 n0 c0, .slice A1 n1 c1, .bool dec] w fun e w' => ∃ v0_ : Value, e = .returned (v0_) ∧ Kd.R (Kd.int .u8) 5 w' w.heap.size (fun _ => True) v0_ [] ∧ Below w.heap.size w w' := by
  by_cases h0 : n0 = 8
  · have b0 : ((n0 : Int) != 8) = false := by rw [bne_eq_false_iff_eq]; omega
    have b1 : ((n1 : Int) != 8) = true := by rw [bne_iff_ne]; omega
    clear h
    go_enter Tryd.func18, Tryd.ntmps18
    go_wp2_with fail
    go_ret
    exact ⟨_, rfl, Kd.R_nil _ _ _ _ _, Below.refl _ _⟩
  · have b0 : ((n0 : Int) != 8) = true := by rw [bne_iff_ne]; omega
    clear h
    go_enter Tryd.func18, Tryd.ntmps18
    go_wp2_with fail
    go_ret
    exact ⟨_, rfl, Kd.R_nil _ _ _ _ _, Below.refl _ _⟩

set_option maxHeartbeats 4000000 in
theorem spec_Des.calls8 (A0 : Option Addr) (c0 : Nat) (l0 : List Int) (A1 : Option Addr) (c1 : Nat) (l1 : List Int) (dec : Bool) (w : World) (hr0 : Kd.C (Kd.int .u8) w A0 8 l0) (hc0 : 8 ≤ c0) (hr1 : Kd.C (Kd.int .u8) w A1 8 l1) (hc1 : 8 ≤ c1)
    (h0 : l0.length = 8) (hb0 : Bytes l0) (h1 : l1.length = 8) (hb1 : Bytes l1) :
    Calls Tryd.prog 18 #[.slice A0 8 c0, .slice A1 8 c1, .bool dec] w fun e w' => ∃ v0_ : Value, e = .returned (v0_) ∧ Kd.R (Kd.int .u8) 5 w' w.heap.size (fun _ => True) v0_ (desL l0 l1 dec) ∧ Below w.heap.size w w' := by
  have HR1 := Aside0.mk hr1
  have hk := spec_l1Keys.calls0 A0 c0 l0 w (by rw [h0]; exact hr0) (by omega) h0 hb0
  rw [h0] at hk
  have KK := Aside0.mk hk
  have hbits := Aside0.mk (spec_bits_eq l1 (by omega) hb1 100 (by omega))
  have hl64 : (bitsOf l1).length = 64 := by rw [bitsOf_length, h1]
  have hp1 := Aside0.mk (spec_pick_eq (bitsOf l1) tIP (by omega) (by decide) (by rw [hl64]; exact within_ip) 100 (by decide))
  obtain ⟨vb, hvb⟩ : ∃ vb, vb = pickB (bitsOf l1) tIP := ⟨_, rfl⟩
  have hvbb : Bits vb := hvb ▸ pickB_bits (bitsOf_bits _) _
  have hvbl : vb.length = 64 := by rw [hvb, pickB_length]; rfl
  obtain ⟨ks, hks⟩ : ∃ ks, ks = keysB l0 := ⟨_, rfl⟩
  have HKG : Aside0 ((∀ k ∈ ks, Bits k ∧ k.length = 48) ∧ ks.length = 16) := ⟨hks ▸ keysB_good l0, hks ▸ keysB_length l0⟩
  obtain ⟨L, hL⟩ : ∃ l, l = vb.take 32 := ⟨_, rfl⟩
  obtain ⟨Rr, hRr⟩ : ∃ l, l = vb.drop 32 := ⟨_, rfl⟩
  have HP0 : Aside0 (L.length = 32 ∧ Rr.length = 32 ∧ Bits L ∧ Bits Rr) := ⟨by rw [hL, hRr]; exact ⟨by rw [List.length_take]; omega, by rw [List.length_drop]; omega, hvbb.take _, hvbb.drop _⟩⟩
  have HTK : Aside0 ((vb.drop 0).take 32 = L ∧ (vb.drop 32).take 32 = Rr) := ⟨by rw [hL]; rfl, by rw [hRr]; exact List.take_of_length_le (by rw [List.length_drop]; omega)⟩
  have HE0 : Aside0 (desL l0 l1 dec = unbits (pickB ((feist (dirB dec ks) (L, Rr)).2 ++ (feist (dirB dec ks) (L, Rr)).1) tINV)) := ⟨by rw [hL, hRr, hvb, hks]; rfl⟩
  rw [HE0.out]
  rw [← hks] at KK
  rw [← hvb] at hp1
  have HVL := Aside0.mk hvbl
  have HL1 := Aside0.mk h1
  have HL64 := Aside0.mk hl64
  clear hr0 hr1 hc0 h0 hb0 hb1 hl64 hvb hvbb hvbl hks hL hRr hk h1 HE0
  obtain ⟨dks, hdks⟩ : ∃ dks, dks = dirB dec ks := ⟨_, rfl⟩
  rw [← hdks]
  have HDK := Aside0.mk hdks
  clear hdks
  have HKB := Aside0.mk (fun (w1 : World) (h : Kd.C (Kd.int .u8) w1 A1 8 l1) => bits_call A1 c1 l1 HL1.out hc1 hbits.out w1 h)
  clear hc1
  go_enter Tryd.func18, Tryd.ntmps18
  go_wp2_with (first | (go_at_call 41; go_must (refine KK.out.mono ?_; rintro e w1 ⟨v1, rfl, hR, hb⟩; obtain ⟨Ak, ck, ek⟩ := Kd.R_slice hR; rw [HKG.out.2] at ek; subst ek; obtain ⟨gk, egk, _⟩ := R_own' hR (by rw [HKG.out.2]; decide); subst egk; have HK := Aside0.mk (Kd.R_reads' hR).2.2; rw [HKG.out.2] at HK; have B1 := Aside0.mk hb; clear hR hb)) | (go_at_call 43; go_must (refine (HKB.out _ (Kd.C_below HR1.out B1.out)).mono ?_; rintro e w2 ⟨v2, rfl, hR, hb⟩; obtain ⟨Ab, cb, eb⟩ := Kd.R_slice hR; subst eb; have HB := Aside0.mk (Kd.R_reads' hR).2; have B2 := Aside0.mk hb; clear hR hb)) | (go_at_call 44; go_must (refine (spec_l1IP.calls 100 tIP _ spec_ip_eq).mono ?_; rintro e w3 ⟨v3, rfl, hR, hb⟩; obtain ⟨At, ct, et⟩ := Kd.R_slice hR; subst et; have HT := Aside0.mk (Kd.R_reads' hR).2; have B3 := Aside0.mk hb; clear hR hb)) | (go_at_call 42; go_must (refine (spec_l1Pick.calls 100 _ _ (bitsOf l1) _ _ tIP _ _ (Kd.C_below HB.out.2 B3.out) HB.out.1 HT.out.2 HT.out.1 hp1.out).mono ?_; rintro e w4 ⟨v4, rfl, hR, hb⟩; obtain ⟨Ax, cx, ex⟩ := Kd.R_slice hR; rw [HVL.out] at ex; subst ex; obtain ⟨gx, egx, _⟩ := R_own' hR (by rw [HVL.out]; decide); subst egx; have HX := Aside0.mk (Kd.R_reads' hR).2; rw [HVL.out] at HX; have hcx := HX.out.1; have B4 := Aside0.mk hb; clear hR hb)))
  have HK4 := Aside0.mk (Kd.C_below HK.out (below_step B2.out (below_step B3.out B4.out)))
  have HW4 := Aside0.mk (below_step B1.out (below_step B2.out (below_step B3.out B4.out)))
  have hL0 := C_at HX.out.2 0 32 (by omega)
  have hR0 := C_at HX.out.2 32 32 (by omega)
  rw [HTK.out.1] at hL0
  rw [HTK.out.2, Nat.zero_add] at hR0
  have HL0 := Aside0.mk hL0
  have HR0 := Aside0.mk hR0
  clear hL0 hR0
  go_loopw [9, 10, 11, 12, 13, 38] (fun v9 v10 v11 v12 v13 v38 wr => ∃ (i gl ol cl gr or_ cr : Nat), i ≤ 16 ∧ v38 = .int .i64 i ∧ v9 = .slice (some ⟨gl, ol, none⟩) 32 cl ∧ v10 = .slice (some ⟨gr, or_, none⟩) 32 cr ∧ 32 ≤ cl ∧ 32 ≤ cr ∧
      Aside0 (Kd.C (Kd.int .u8) wr (some ⟨gl, ol, none⟩) 32 (feist (dks.take i) (L, Rr)).1) ∧ Aside0 (Kd.C (Kd.int .u8) wr (some ⟨gr, or_, none⟩) 32 (feist (dks.take i) (L, Rr)).2) ∧ Aside0 (Below w4.heap.size w4 wr))
    (fun _ _ _ _ _ v38 _ => 16 - (intOf v38).toNat)
  case atStart => exact ⟨0, gx, 0, cx, gx, 32, cx - 32, by omega, rfl, rfl, rfl, by omega, by omega, HL0, HR0, ⟨Below.refl _ _⟩⟩
  case round =>
    obtain ⟨i, gl, ol, cl, gr, or_, cr, hi, rfl, rfl, rfl, hcl, hcr, G1, G2, G3⟩ := hrel
    by_cases hlt : i < 16
    · obtain ⟨kk, t1, t2, t3, t4⟩ := dir_list dec ks HKG.out.2 HKG.out.1 i hlt
      rw [← HDK.out] at t1
      obtain ⟨g1, g2, g3, g4⟩ := feist_good (dks.take i) (L, Rr) HP0.out.1 HP0.out.2.1 HP0.out.2.2.1 HP0.out.2.2.2
      have hf : feist (dks.take (i + 1)) (L, Rr) = ((feist (dks.take i) (L, Rr)).2, xorB (feist (dks.take i) (L, Rr)).1 (roundB (feist (dks.take i) (L, Rr)).2 kk)) := by rw [t1, feist_append]; rfl
      have HF := Aside0.mk hf
      clear hf t1
      obtain ⟨pl, hpl⟩ : ∃ pl, pl = (feist (dks.take i) (L, Rr)).1 := ⟨_, rfl⟩
      obtain ⟨pr, hpr⟩ : ∃ pr, pr = (feist (dks.take i) (L, Rr)).2 := ⟨_, rfl⟩
      rw [← hpl] at g1 g3 HF G1
      rw [← hpr] at g2 g4 HF G2
      clear hpl hpr
      have HG := Aside0.mk (And.intro g1 (And.intro g2 (And.intro g3 (And.intro g4 (And.intro t2 t3)))))
      have hkr := Kd.C_below HK4.out G3.out
      obtain ⟨Ak1, ck1, hk1, hkc1, hkC1⟩ := row_at hkr i hlt
      obtain ⟨Ak2, ck2, hk2, hkc2, hkC2⟩ := row_at hkr (15 - i) (by omega)
      have e15 : (15 - (i : Int)).toNat = 15 - i := by omega
      clear g1 g2 g3 g4 t2 t3 hkr
      cases dec
      · simp only [Bool.false_eq_true, if_false] at t4
        rw [← t4] at hk1 hkc1 hkC1
        have hkl := HG.out.2.2.2.2.2
        rw [hkl] at hk1 hkc1 hkC1
        have HKC := Aside0.mk hkC1
        clear t4 hkC1 hkC2 hkc2 hkl
        go_wp2_with (first | (go_at_call 46; go_must (refine (round32 _ cr pr _ ck1 kk _ G2.out hcr HKC.out hkc1 HG.out.2.1 HG.out.2.2.2.1 HG.out.2.2.2.2.2 HG.out.2.2.2.2.1).mono ?_; rintro e w5 ⟨g5, c5, rfl, hc5, hC5, hb5⟩; have HC5 := Aside0.mk hC5; have HB5 := Aside0.mk hb5; clear hC5 hb5)) | (go_at_call 45; go_must (refine (xor32 _ cl pl _ c5 _ _ (Kd.C_below G1.out HB5.out) hcl HC5.out hc5 HG.out.1 HG.out.2.2.1 (roundB_length _ _) (roundB_bits _ _)).mono ?_; rintro e w6 ⟨g6, c6, rfl, hc6, hC6, hb6⟩; have HC6 := Aside0.mk hC6; have HB6 := Aside0.mk hb6; clear hC6 hb6)))
        go_roundw
        case rel => exact ⟨i + 1, gr, or_, cr, g6, 0, c6, by omega, by go_num, rfl, rfl, hcr, hc6, ⟨by rw [HF.out]; exact Kd.C_below G2.out (below_step HB5.out HB6.out)⟩, ⟨by rw [HF.out]; exact HC6.out⟩, ⟨below_step G3.out (below_step HB5.out HB6.out)⟩⟩
        case measure => simp [intOf]; omega
      · simp only [if_true] at t4
        rw [← t4] at hk2 hkc2 hkC2
        have hkl := HG.out.2.2.2.2.2
        rw [hkl] at hk2 hkc2 hkC2
        have HKC := Aside0.mk hkC2
        clear t4 hkC1 hkC2 hkc1 hkl
        go_wp2_with (first | (go_at_call 46; go_must (refine (round32 _ cr pr _ ck2 kk _ G2.out hcr HKC.out hkc2 HG.out.2.1 HG.out.2.2.2.1 HG.out.2.2.2.2.2 HG.out.2.2.2.2.1).mono ?_; rintro e w5 ⟨g5, c5, rfl, hc5, hC5, hb5⟩; have HC5 := Aside0.mk hC5; have HB5 := Aside0.mk hb5; clear hC5 hb5)) | (go_at_call 45; go_must (refine (xor32 _ cl pl _ c5 _ _ (Kd.C_below G1.out HB5.out) hcl HC5.out hc5 HG.out.1 HG.out.2.2.1 (roundB_length _ _) (roundB_bits _ _)).mono ?_; rintro e w6 ⟨g6, c6, rfl, hc6, hC6, hb6⟩; have HC6 := Aside0.mk hC6; have HB6 := Aside0.mk hb6; clear hC6 hb6)))
        go_roundw
        case rel => exact ⟨i + 1, gr, or_, cr, g6, 0, c6, by omega, by go_num, rfl, rfl, hcr, hc6, ⟨by rw [HF.out]; exact Kd.C_below G2.out (below_step HB5.out HB6.out)⟩, ⟨by rw [HF.out]; exact HC6.out⟩, ⟨below_step G3.out (below_step HB5.out HB6.out)⟩⟩
        case measure => simp [intOf]; omega
    · obtain rfl : i = 16 := by omega
      have hdl : dks.length = 16 := by rw [HDK.out]; unfold dirB; split <;> simp [HKG.out.2]
      rw [List.take_of_length_le (by omega)] at G1 G2
      obtain ⟨g1, g2, g3, g4⟩ := feist_good dks (L, Rr) HP0.out.1 HP0.out.2.1 HP0.out.2.2.1 HP0.out.2.2.2
      obtain ⟨pl, hpl⟩ : ∃ pl, pl = (feist dks (L, Rr)).1 := ⟨_, rfl⟩
      obtain ⟨pr, hpr⟩ : ∃ pr, pr = (feist dks (L, Rr)).2 := ⟨_, rfl⟩
      have HPE : Aside0 ((feist dks (L, Rr)).2 ++ (feist dks (L, Rr)).1 = pr ++ pl) := ⟨by rw [hpl, hpr]⟩
      rw [← hpl] at g1 g3 G1
      rw [← hpr] at g2 g4 G2
      have hbl : (pr ++ pl).length = 64 := by rw [List.length_append]; omega
      have HG := Aside0.mk (And.intro g1 (And.intro g2 (And.intro (g4.append g3) hbl)))
      have KB := Aside0.mk (fun (w1 : World) (h : Kd.C (Kd.int .u8) w1 (some ⟨gr, or_, none⟩) 32 pr) => bytes32 gr or_ cr pr g2 w1 h hcr)
      have HPU := Aside0.mk (spec_unbits_eq (pickB (pr ++ pl) tINV) 8 (by rw [pickB_length]; rfl) (by rw [pickB_length]; decide) (pickB_bits (g4.append g3) _) 100 (by rw [pickB_length]; decide))
      clear hdl hpl hpr g1 g2 g3 g4 hbl
      have hmk : ∀ W : World, (Instr.makeSlice 22 (.int .i64 64) (.int .i64 64)).run Tryd.prog W = .ok (.slice (some ⟨W.heap.size, 0, none⟩) 64 64) (W.alloc (.cells (nums .u8 (outAt (pr ++ pl) 0)).toArray 5)) := fun W => by
        rw [outAt_zero, ← made_nums]
        exact print_make 22 5 .u8 1 Tryd.underlying22 info5 (by decide) 64 (by decide) W
      obtain ⟨o0, ho0⟩ : ∃ l, l = outAt (pr ++ pl) 0 := ⟨_, rfl⟩
      rw [← ho0] at hmk
      have HO0 := Aside0.mk ho0
      clear ho0
      have hBo := blk_new wr (.cells (nums .u8 o0).toArray 5)
      have HBO : Aside0 (Blk (wr.alloc (.cells (nums .u8 o0).toArray 5)) wr.heap.size .u8 5 o0) := ⟨hBo⟩
      clear hBo
      go_wp2_with (first | (go_at_call 47; go_must (refine (KB.out _ (Kd.C_alloc G2.out _)).mono ?_; rintro e w5 ⟨v5, rfl, hR, hb⟩; obtain ⟨Aq, cq, eq⟩ := Kd.R_slice hR; rw [HG.out.2.1] at eq; subst eq; have HQ := Aside0.mk hR; have HB5 := Aside0.mk hb; clear hR hb)) | ((with_reducible refine gate_builtin (b := .append) (xs := #[.tmp 61, .tmp 62]) rfl ?_); at_builtin; go_must (refine Kd.R_append_rows (Kd.int .u8) (w0 := wr.alloc (.cells (nums .u8 o0).toArray 5)) (wr.alloc (.cells (nums .u8 o0).toArray 5)).heap.size rfl (.tmp 61) (.tmp 62) 22 5 (.int .u8 0) 1 rfl Tryd.underlying22 info5 rfl (by decide) (by omega) (.slice Aq 32 cq) pr pl _ _ _ (fun _ => True) (fun _ => False) rfl rfl ?aO ?aR (fun _ _ h => h) (fun _ h => h.elim) ?aF ?aB ?aS ?aL ?_; (case aO => exact HQ.out); (case aR => exact Kd.C_below (Kd.C_alloc G1.out _) HB5.out); (case aF => intro k hk; trivial); (case aB => exact HB5.out); (case aS => exact HB5.out.size); (case aL => rw [HG.out.2.1]; omega); intro v6 w6 ho hb hg hat; obtain ⟨Aa, ca, ea⟩ := Kd.R_slice ho; rw [HG.out.2.2.2] at ea; subst ea; obtain ⟨ga, ega, hga⟩ := R_own' ho (by rw [HG.out.2.2.2]; decide); subst ega; have HA6 := Aside0.mk (Kd.R_reads' ho).2; rw [HG.out.2.2.2] at HA6; have HB6 := Aside0.mk hb; have HGA := Aside0.mk hga; clear ho hb hg hat hga)) | (go_at_call 44; go_must (refine (spec_l1IP.calls 100 tIP _ spec_ip_eq).mono ?_; rintro e w7 ⟨v7, rfl, hR, hb⟩; obtain ⟨At7, ct7, et⟩ := Kd.R_slice hR; subst et; obtain ⟨gt, egt, hgt⟩ := R_own' hR (by decide); subst egt; have HT7 := Aside0.mk (Kd.R_reads' hR).2.2; have HGT := Aside0.mk hgt; have HB7 := Aside0.mk hb; clear hR hb hgt)))
      have X67 := below_step HB6.out HB7.out
      have hBo7 := Aside0.mk (HBO.out.below X67)
      have hA7 := Aside0.mk (Kd.C_below HA6.out.2 HB7.out)
      have hca := HA6.out.1
      have hgo := HBO.out.lt
      have hgab := HGA.out
      have hgtb := HGT.out
      have hsz6 := HB6.out.size
      obtain ⟨go_, hgo_⟩ : ∃ g, g = wr.heap.size := ⟨_, rfl⟩
      have hwb : Aside0 (Below w.heap.size w w7) := ⟨below_step HW4.out (below_step G3.out (below_step (below_alloc (Below.refl _ _) _) X67))⟩
      have hbase : w.heap.size ≤ go_ := by rw [hgo_]; exact (below_step HW4.out G3.out).size
      rw [← hgo_] at hBo7 hgo ⊢
      have hne1 : go_ ≠ ga := by omega
      have hne2 : go_ ≠ gt := by omega
      clear hgo_ hgab hgtb hsz6 hgo HBO hmk X67
      rw [HO0.out] at hBo7
      obtain ⟨both, hboth⟩ : ∃ b, b = pr ++ pl := ⟨_, rfl⟩
      have HBL : Aside0 (both.length = 64) := ⟨by rw [hboth]; exact HG.out.2.2.2⟩
      have HRES : Aside0 (unbits (pickB both tINV) = unbits (pickB ((feist dks (L, Rr)).2 ++ (feist dks (L, Rr)).1) tINV)) := ⟨by rw [HPE.out, hboth]⟩
      rw [← hboth] at hBo7 hA7 HPU
      clear hboth
      go_loopw [16, 17, 66] (fun v16 v17 v66 wi => ∃ j : Nat, j ≤ 64 ∧ v66 = .int .i64 j ∧ Aside0 (Blk wi go_ .u8 5 (outAt both j)) ∧ Aside0 (Kd.C (Kd.int .u8) wi (some ⟨ga, 0, none⟩) 64 both) ∧ Aside0 (Kd.C (Kd.int .i64) wi (some ⟨gt, 0, none⟩) 64 tIP) ∧ Aside0 (Below w.heap.size w wi))
        (fun _ _ v66 _ => 64 - (intOf v66).toNat)
      case atStart => exact ⟨0, by omega, rfl, hBo7, hA7, HT7, hwb⟩
      case round =>
        obtain ⟨j, hj, rfl, J1, J2, J3, J4⟩ := hrel
        by_cases hlj : j < 64
        · have hn := within_ip j hlj
          obtain ⟨m, hm⟩ : ∃ m : Nat, nth tIP j = (m : Int) + 1 := ⟨(nth tIP j).toNat - 1, by omega⟩
          have hm64 : m < 64 := by omega
          have hmn : (nth tIP j).toNat - 1 = m := by omega
          have c1 := int_cell J3.out j hlj
          rw [hm] at c1
          have c2 := own_cell (l := both) (by rw [HBL.out]; exact J2.out) j (by rw [HBL.out]; exact hlj)
          have c3 := J1.out.cell m (by rw [outAt_length]; exact hm64)
          have c4 := J1.out.free m
          have hst := outAt_step both j hlj
          rw [hmn] at hst
          have HST := Aside0.mk hst
          clear hst hn hm hmn
          go_wp2
          go_roundw
          case rel => exact ⟨j + 1, by omega, by go_num, ⟨by rw [← HST.out]; exact J1.out.set m _⟩, ⟨C_set J2.out (by simpa using hne1) _⟩, ⟨C_set J3.out (by simpa using hne2) _⟩, ⟨J4.out.setCell (p := ⟨go_, m, none⟩) hbase _⟩⟩
          case measure => simp [intOf]; omega
        · obtain rfl : j = 64 := by omega
          rw [outAt_all] at J1
          have hR := J1.out.R hbase (by rw [pickB_length]; rfl) (n := 64) (by omega)
          have KU := Aside0.mk (unbits_call go_ 64 (pickB both tINV) (by rw [pickB_length]; rfl) (by omega) HPU.out wr (by have := (Kd.R_reads' hR).2.2; rw [show (pickB both tINV).length = 64 by rw [pickB_length]; rfl] at this; exact this))
          clear hR
          go_wp2_with (go_at_call 48; go_must (refine KU.out.mono ?_; rintro e w9 ⟨v9, rfl, hR9, hb9⟩; have HR9 := Aside0.mk hR9; have HB9 := Aside0.mk hb9; clear hR9 hb9))
          go_ret
          rw [← HRES.out]
          exact ⟨_, rfl, Kd.R_lower HR9.out J4.out.size, below_step J4.out HB9.out⟩
end Go.Proofs.YtbjlpdfhjapbkaaDoor
