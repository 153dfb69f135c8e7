/- Contract of spec.l1Round over bits. Conditions: 32 bits and 48 bits. -/
import Derived.Test.YtbjlpdfhjapbkaaDoorBoxed
import Derived.Deep.QuietTactic
import Derived.BigQuiet
import Derived.Test.YtbjlpdfhjapbkaaDoorDesC
namespace Go.Proofs.YtbjlpdfhjapbkaaDoor
open Go.RowKit Go.Proofs.YtbjlpdfhjapbkaaDoorW.PrintWords Go.Proofs.YtbjlpdfhjapbkaaDoorW.PrintLast Go.Proofs.YtbjlpdfhjapbkaaDoorW.PrintMore Go.Proofs.YtbjlpdfhjapbkaaDoor.D Go.Proofs.YtbjlpdfhjapbkaaDoor.B
set_option linter.unusedVariables false

theorem R_own {w : World} {base n c e : Nat} {ok : Nat → Prop} {A : Option Addr} {k : IntKind} {xs : List Int} (h : Kd.R (Kd.int k) e w base ok (.slice A n c) xs) (hp : 0 < xs.length) : ∃ g, A = some ⟨g, 0, none⟩ ∧ base ≤ g := by
  obtain ⟨h0, inner, ho, hr⟩ := h
  obtain ⟨h1, h2⟩ := ho
  rcases h2 with ⟨_, h4⟩ | ⟨g, cap, cur, hv, hb, _⟩
  · omega
  · injection hv with a b
    exact ⟨g, a, hb⟩
theorem own_cell {w : World} {g : Nat} {l : List Int} (h : Kd.C (Kd.int .u8) w (some ⟨g, 0, none⟩) l.length l) (j : Nat) (hj : j < l.length) : w.cell? ⟨g, j, none⟩ = some (.int .u8 (nth l j)) := by
  obtain ⟨ad, e, hc⟩ := C_cells h (by omega)
  cases e
  have := hc j (.int .u8 (nth l j)) (by simp [nums, hj, nth_at _ _ hj])
  rwa [Addr.add_mid, Nat.zero_add] at this
theorem spec_box (k : Nat) (hk : k < 8) : spec_l1Box.f (k : Int) = some ⟨(boxT.getD k []).toArray⟩ := by
  have : ∀ j : Fin 8, spec_l1Box.f (j.val : Int) = some ⟨(boxT.getD j.val []).toArray⟩ := fun j => match j with
    | ⟨0, _⟩ => rfl | ⟨1, _⟩ => rfl | ⟨2, _⟩ => rfl | ⟨3, _⟩ => rfl | ⟨4, _⟩ => rfl | ⟨5, _⟩ => rfl | ⟨6, _⟩ => rfl | ⟨7, _⟩ => rfl
  exact this ⟨k, hk⟩
theorem spec_hex : ∀ k : Fin 8, ∀ i : Fin 64, spec_l1Hex.f (boxC k.val i.val) = some (hexv (boxC k.val i.val)) ∧ 0 ≤ hexv (boxC k.val i.val) ∧ hexv (boxC k.val i.val) < 16 := by decide +kernel
theorem nib_and : ∀ v : Fin 16, Go.bits .and .u8 ((v.val : Int) / 8) 1 = (v.val : Int) / 8 % 2 ∧ Go.bits .and .u8 ((v.val : Int) / 4) 1 = (v.val : Int) / 4 % 2 ∧ Go.bits .and .u8 ((v.val : Int) / 2) 1 = (v.val : Int) / 2 % 2 ∧ Go.bits .and .u8 (v.val : Int) 1 = (v.val : Int) % 2 := by decide +kernel

theorem run_index_box_i (k : Nat) (hk : k < 8) (i : Int) (h0 : 0 ≤ i) (h1 : i < 64) (W : World) :
    (Instr.index 9 (.string ⟨(boxT.getD k []).toArray⟩) (.int .i64 i)).run Tryd.prog W = .ok (.int .u8 (boxC k i.toNat)) W := by
  have hs := box_size k hk
  unfold boxC
  generalize boxT.getD k [] = B at *
  have hsz : (ByteArray.mk B.toArray).size = 64 := by simp [ByteArray.size, hs]
  rw [run_index_string _ _ _ _ _ Tryd.underlying9, dif_pos ⟨h0, by rw [hsz]; omega⟩]
  have : ((ByteArray.mk B.toArray)[i.toNat]'(by rw [hsz]; omega)) = B.getD i.toNat 0 := by
    show B.toArray[i.toNat]'(by simp [hs]; omega) = _
    rw [List.getElem_toArray, List.getD_eq_getElem?_getD, List.getElem?_eq_getElem (by omega)]
    rfl
  rw [this]
theorem new_C (w : World) (e : TypeId) (xs : List Int) (h : xs.length ≤ 9223372036854775807) : Kd.C (Kd.int .u8) (w.alloc (.cells (nums .u8 xs).toArray e)) (some ⟨w.heap.size, 0, none⟩) xs.length xs :=
  (Kd.R_reads' (Blk.R (base := 0) (Blk.new w .u8 e xs) (Nat.zero_le _) rfl h)).2.2
set_option maxHeartbeats 4000000 in
theorem spec_l1Round.calls0 (A0 : Option Addr) (c0 : Nat) (l0 : List Int) (A1 : Option Addr) (c1 : Nat) (l1 : List Int) (w : World) (hr0 : Kd.C (Kd.int .u8) w A0 l0.length l0) (hc0 : l0.length ≤ c0) (hr1 : Kd.C (Kd.int .u8) w A1 l1.length l1) (hc1 : l1.length ≤ c1)
    (h0 : l0.length = 32) (hb0 : Bits l0) (h1 : l1.length = 48) (hb1 : Bits l1) :
    Calls Tryd.prog 46 #[.slice A0 l0.length c0, .slice A1 l1.length c1] w fun e w' => ∃ v0_ : Value, e = .returned (v0_) ∧ Kd.R (Kd.int .u8) 5 w' w.heap.size (fun _ => True) v0_ (roundB l0 l1) ∧ Below w.heap.size w w' := by
  have HR0 := Aside0.mk hr0
  have HC0 := Aside0.mk hc0
  have HR1 := Aside0.mk hr1
  have HC1 := Aside0.mk hc1
  have hp1 := Aside0.mk (spec_pick_eq l0 tE (by omega) (by decide) (by rw [h0]; exact within_e) 100 (by decide))
  have hpb : Bits (pickB l0 tE) := pickB_bits hb0 _
  have hpl : (pickB l0 tE).length = 48 := pickB_length _ _
  have hx1 := Aside0.mk (spec_xor_eq (pickB l0 tE) l1 (by rw [hpl, h1]; exact Nat.le_refl _) (by omega) 100 (by omega))
  rw [xorL_bits hpb hb1] at hx1
  have hxb := Aside0.mk (xorB_bits (pickB l0 tE) l1)
  have hxl := Aside0.mk ((xorB_length (pickB l0 tE) l1 (by rw [hpl, h1])).trans hpl)
  obtain ⟨x, hx⟩ : ∃ x, x = xorB (pickB l0 tE) l1 := ⟨_, rfl⟩
  have hres : Aside0 (roundB l0 l1 = pickB (boxesTo x 8) tP) := ⟨by rw [hx]; rfl⟩
  rw [← hx] at hx1 hxb hxl
  rw [hres.out]
  clear hr0 hr1 hc0 hc1 h0 hb0 h1 hb1 hpb hpl hx
  go_enter Tryd.func46, Tryd.ntmps46
  go_wp2_with (first | (go_at_call 70; go_must (refine (spec_l1E.calls 100 tE _ spec_e_eq).mono ?_; rintro e w1 ⟨v1, rfl, hR, hb⟩; obtain ⟨Ae, ce, ee⟩ := Kd.R_slice hR; subst ee; have HE := Aside0.mk (Kd.R_reads' hR).2; have B1 := Aside0.mk hb; clear hR hb)) | (go_at_call 42; go_must (refine (spec_l1Pick.calls 100 _ _ l0 _ _ tE _ _ (Kd.C_below HR0.out B1.out) HC0.out HE.out.2 HE.out.1 hp1.out).mono ?_; rintro e w2 ⟨v2, rfl, hR, hb⟩; obtain ⟨Ap, cp, ep⟩ := Kd.R_slice hR; subst ep; have HP := Aside0.mk (Kd.R_reads' hR).2; have B2 := Aside0.mk (below_step B1.out hb); clear hR hb)) | (go_at_call 45; go_must (refine (spec_l1Xor.calls 100 _ _ (pickB l0 tE) _ _ l1 _ _ HP.out.2 HP.out.1 (Kd.C_below HR1.out B2.out) HC1.out hx1.out).mono ?_; rintro e w3 ⟨v3, rfl, hR, hb⟩; obtain ⟨Ax, cx, ex⟩ := Kd.R_slice hR; subst ex; obtain ⟨gx, egx, _⟩ := R_own hR (by rw [hxl.out]; decide); subst egx; have HX := Aside0.mk (Kd.R_reads' hR).2; have B3 := Aside0.mk (below_step B2.out hb); clear hR hb)))
  go_loopw [6, 7, 8, 9, 10, 11] (fun v6 v7 v8 v9 v10 v11 wr => ∃ k : Nat, k ≤ 8 ∧ v7 = .int .i64 k ∧ Aside0 (Kd.R (Kd.int .u8) 5 wr w3.heap.size (fun _ => True) v6 (boxesTo x k)) ∧ Aside0 (Below w3.heap.size w3 wr))
    (fun _ v7 _ _ _ _ _ => 8 - (intOf v7).toNat)
  case atStart => exact ⟨0, by omega, rfl, ⟨Kd.R_nil _ _ _ _ _⟩, ⟨Below.refl _ _⟩⟩
  case round =>
    obtain ⟨k, hk, rfl, HO, HW⟩ := hrel
    by_cases hlt : k < 8
    · have hxk := Kd.C_below HX.out.2 HW.out
      have ce : ∀ j, j < 6 → wr.cell? ⟨gx, 6 * k + j, none⟩ = some (.int .u8 (nth x (6 * k + j))) := fun j hj => own_cell hxk (6 * k + j) (by rw [hxl.out]; omega)
      have ce0 := ce 0 (by omega)
      have ce1 := ce 1 (by omega)
      have ce2 := ce 2 (by omega)
      have ce3 := ce 3 (by omega)
      have ce4 := ce 4 (by omega)
      have ce5 := ce 5 (by omega)
      rw [Nat.add_zero] at ce0
      clear ce hxk
      have n0 := hxb.out.nth (6 * k)
      have n1 := hxb.out.nth (6 * k + 1)
      have n2 := hxb.out.nth (6 * k + 2)
      have n3 := hxb.out.nth (6 * k + 3)
      have n4 := hxb.out.nth (6 * k + 4)
      have n5 := hxb.out.nth (6 * k + 5)
      have hpl : Aside0 (place (x.drop (6 * k)) = (nth x (6 * k) * 2 + nth x (6 * k + 5)) * 16 + (nth x (6 * k + 1) * 8 + nth x (6 * k + 2) * 4 + nth x (6 * k + 3) * 2 + nth x (6 * k + 4))) := ⟨by unfold place; rw [nth_drop, nth_drop, nth_drop, nth_drop, nth_drop, nth_drop]; rfl⟩
      obtain ⟨b0, hb0⟩ : ∃ b, b = nth x (6 * k) := ⟨_, rfl⟩
      obtain ⟨b1, hb1⟩ : ∃ b, b = nth x (6 * k + 1) := ⟨_, rfl⟩
      obtain ⟨b2, hb2⟩ : ∃ b, b = nth x (6 * k + 2) := ⟨_, rfl⟩
      obtain ⟨b3, hb3⟩ : ∃ b, b = nth x (6 * k + 3) := ⟨_, rfl⟩
      obtain ⟨b4, hb4⟩ : ∃ b, b = nth x (6 * k + 4) := ⟨_, rfl⟩
      obtain ⟨b5, hb5⟩ : ∃ b, b = nth x (6 * k + 5) := ⟨_, rfl⟩
      rw [← hb0] at ce0 n0
      rw [← hb1] at ce1 n1
      rw [← hb2] at ce2 n2
      rw [← hb3] at ce3 n3
      rw [← hb4] at ce4 n4
      rw [← hb5] at ce5 n5
      rw [← hb0, ← hb1, ← hb2, ← hb3, ← hb4, ← hb5] at hpl
      clear hb0 hb1 hb2 hb3 hb4 hb5
      have m0 : 0 ≤ b0 ∧ b0 ≤ 1 := by omega
      have m1 : 0 ≤ b1 ∧ b1 ≤ 1 := by omega
      have m2 : 0 ≤ b2 ∧ b2 ≤ 1 := by omega
      have m3 : 0 ≤ b3 ∧ b3 ≤ 1 := by omega
      have m4 : 0 ≤ b4 ∧ b4 ≤ 1 := by omega
      have m5 : 0 ≤ b5 ∧ b5 ≤ 1 := by omega
      obtain ⟨m00, m01⟩ := m0
      obtain ⟨m10, m11⟩ := m1
      obtain ⟨m20, m21⟩ := m2
      obtain ⟨m30, m31⟩ := m3
      obtain ⟨m40, m41⟩ := m4
      obtain ⟨m50, m51⟩ := m5
      clear n0 n1 n2 n3 n4 n5
      have hcx := HX.out.1
      rw [hxl.out] at hcx ⊢
      go_wp2
      go_quiet (fail)
      go_wp2
      go_quiet (fail)
      have hi0 : (0 : Int) ≤ (b0 * 2 + b5) * 16 + (b1 * 8 + b2 * 4 + b3 * 2 + b4) ∧ (b0 * 2 + b5) * 16 + (b1 * 8 + b2 * 4 + b3 * 2 + b4) < 64 := by omega
      have hidx := run_index_box_i k hlt _ hi0.1 hi0.2
      have hdg := spec_hex ⟨k, hlt⟩ ⟨((b0 * 2 + b5) * 16 + (b1 * 8 + b2 * 4 + b3 * 2 + b4)).toNat, by omega⟩
      simp only [] at hdg
      obtain ⟨dg0, dg1, dg2⟩ := hdg
      have hst : Aside0 (boxesTo x (k + 1) = boxesTo x k ++ nib (hexv (boxC k ((b0 * 2 + b5) * 16 + (b1 * 8 + b2 * 4 + b3 * 2 + b4)).toNat))) := ⟨by rw [boxesTo, boxB, hpl.out]⟩
      obtain ⟨B, hB⟩ : ∃ B : ByteArray, B = ⟨(boxT.getD k []).toArray⟩ := ⟨_, rfl⟩
      have KB := Aside0.mk (fun (w1 : World) => spec_l1Box.calls (k : Int) _ w1 (spec_box k hlt))
      rw [← hB] at hidx KB
      obtain ⟨v, hv⟩ : ∃ v, v = hexv (boxC k ((b0 * 2 + b5) * 16 + (b1 * 8 + b2 * 4 + b3 * 2 + b4)).toNat) := ⟨_, rfl⟩
      rw [← hv] at dg0 dg1 dg2 hst
      obtain ⟨ch, hch⟩ : ∃ ch, ch = boxC k ((b0 * 2 + b5) * 16 + (b1 * 8 + b2 * 4 + b3 * 2 + b4)).toNat := ⟨_, rfl⟩
      rw [← hch] at dg0 hidx
      have KD := Aside0.mk (fun (w1 : World) => spec_l1Hex.calls ch v w1 dg0)
      have hna := nib_and ⟨v.toNat, by omega⟩
      simp only [show ((v.toNat : Nat) : Int) = v by omega] at hna
      obtain ⟨na0, na1, na2, na3⟩ := hna
      clear hB hv hch dg0 hi0 hpl ce0 ce1 ce2 ce3 ce4 ce5 hcx
      have hn4 : (nib v).length ≤ 9223372036854775807 := by simp [nib]
      go_wp2_with (first | (go_at_call 72; go_must (refine (KB.out _).mono ?_; rintro e w4 ⟨rfl, hb4⟩; have HB4 := Aside0.mk (below_then (pw_below_drewN (Below.refl wr.heap.size wr) _) (Nat.le_refl _) hb4); clear hb4)) | (go_at_call 71; go_must (refine (KD.out _).mono ?_; rintro e w5 ⟨rfl, ⟨nd, rfl⟩⟩)) | ((with_reducible refine gate_builtin (b := .append) (xs := #[.tmp 64, .tmp 76]) rfl ?_); at_builtin; go_must (refine Kd.R_append_rows (Kd.int .u8) (w0 := w3) w3.heap.size rfl (.tmp 64) (.tmp 76) 22 5 (.int .u8 0) 1 rfl Tryd.underlying22 info5 rfl (by decide) (by omega) u6 (boxesTo x k) (nib v) _ _ _ (fun _ => True) (fun _ => False) rfl rfl ?aO ?aR (fun _ _ h => h) (fun _ h => h.elim) ?aF ?aB ?aS ?aL ?_; (case aR => exact new_C (w4.drewN nd) 5 (nib v) hn4); (case aO => exact Kd.R_alloc (Kd.R_drewN (Kd.R_below HO.out HB4.out) nd) _); (case aF => intro k hk; trivial); (case aB => exact (pw_below_drewN (below_step HW.out HB4.out) nd).alloc (below_step HW.out HB4.out).size _); (case aS => have h_ := (below_step HW.out HB4.out).size; simp; omega); (case aL => rw [boxesTo_length]; simp; omega); intro v1 w6 ho hb hg hat; rw [← hst.out] at ho; have HO1 := Aside0.mk ho; have HW1 := Aside0.mk hb; clear ho hb hg hat HO HW)))
      go_roundw
      case rel => exact ⟨k + 1, by omega, by go_num, HO1, HW1⟩
      case measure => simp [intOf]; omega
    · obtain rfl : k = 8 := by omega
      have hl32 := boxesTo_length x 8
      have hp2 := Aside0.mk (spec_pick_eq (boxesTo x 8) tP (by omega) (by decide) (by rw [hl32]; exact within_p) 100 (by decide))
      obtain ⟨Ao, co, eo⟩ := Kd.R_slice HO.out
      subst eo
      have HO2 := Aside0.mk (Kd.R_reads' HO.out).2
      clear hl32
      go_wp2_with (first | (go_at_call 73; go_must (refine (spec_l1P.calls tP _ rfl).mono ?_; rintro e w7 ⟨v7, rfl, hR, hb⟩; obtain ⟨At, ct, et⟩ := Kd.R_slice hR; subst et; have HT := Aside0.mk (Kd.R_reads' hR).2; have B7 := Aside0.mk hb; clear hR hb)) | (go_at_call 42; go_must (refine (spec_l1Pick.calls 100 _ _ (boxesTo x 8) _ _ tP _ _ (Kd.C_below HO2.out.2 B7.out) HO2.out.1 HT.out.2 HT.out.1 hp2.out).mono ?_; rintro e w8 ⟨v8, rfl, hR, hb⟩; have HR8 := Aside0.mk hR; have B8 := Aside0.mk hb; clear hR hb)))
      go_ret
      have hbb := below_step B3.out (below_step HW.out B7.out)
      exact ⟨_, rfl, Kd.R_lower HR8.out hbb.size, below_step hbb B8.out⟩
end Go.Proofs.YtbjlpdfhjapbkaaDoor
