/- Contract of spec.l1Round over bits. Conditions: 32 bits and 48 bits. · Contract of spec.l1Keys: the 16 keys as rows of bits. Condition: 8 bytes. · Contract of spec.Des. -/
import Derived.Test.YtbjlpdfhjapbkaaDoorDesW
import Derived.Deep.QuietTactic
import Derived.BigQuiet
import Derived.Test.YtbjlpdfhjapbkaaDoorDesCD
import Derived.Deep.RegionLaw
import Derived.Deep.CutRange
namespace Go.Proofs.YtbjlpdfhjapbkaaDoor
open Go.RowKit Go.Proofs.YtbjlpdfhjapbkaaDoorW.PrintWords Go.Proofs.YtbjlpdfhjapbkaaDoorW.PrintLast Go.Proofs.YtbjlpdfhjapbkaaDoorW.PrintMore Go.Proofs.YtbjlpdfhjapbkaaDoor.D Go.Proofs.YtbjlpdfhjapbkaaDoor.B
set_option linter.unusedVariables false

theorem R_own {w : World} {base n c e : Nat} {ok : Nat → Prop} {A : Option Addr} {k : IntKind} {xs : List Int} (h : Kd.R (Kd.int k) e w base ok (.slice A n c) xs) (hp : 0 < xs.length) : ∃ g, A = some ⟨g, 0, none⟩ ∧ base ≤ g := by
  obtain ⟨h0, inner, ho, hr⟩ := h
  obtain ⟨h1, h2⟩ := ho
  rcases h2 with ⟨_, h4⟩ | ⟨g, cap, cur, hv, hb, _⟩
  · omega
  · injection hv with a b
    exact ⟨g, a, hb⟩
theorem own_cell {w : World} {g : Nat} {l : List Int} (h : Kd.C (Kd.int .u8) w (some ⟨g, 0, none⟩) l.length l) (j : Nat) (hj : j < l.length) : w.cell? ⟨g, j, none⟩ = some (.int .u8 (nth l j)) := by
  obtain ⟨ad, e, hc⟩ := C_cells h (by omega)
  cases e
  have := hc j (.int .u8 (nth l j)) (by simp [nums, hj, nth_at _ _ hj])
  rwa [Addr.add_mid, Nat.zero_add] at this
theorem spec_box (k : Nat) (hk : k < 8) : spec_l1Box.f (k : Int) = some ⟨(boxT.getD k []).toArray⟩ := by
  have : ∀ j : Fin 8, spec_l1Box.f (j.val : Int) = some ⟨(boxT.getD j.val []).toArray⟩ := fun j => match j with
    | ⟨0, _⟩ => rfl | ⟨1, _⟩ => rfl | ⟨2, _⟩ => rfl | ⟨3, _⟩ => rfl | ⟨4, _⟩ => rfl | ⟨5, _⟩ => rfl | ⟨6, _⟩ => rfl | ⟨7, _⟩ => rfl
  exact this ⟨k, hk⟩
theorem spec_hex : ∀ k : Fin 8, ∀ i : Fin 64, spec_l1Hex.f (boxC k.val i.val) = some (hexv (boxC k.val i.val)) ∧ 0 ≤ hexv (boxC k.val i.val) ∧ hexv (boxC k.val i.val) < 16 := by decide +kernel
theorem nib_and : ∀ v : Fin 16, Go.bits .and .u8 ((v.val : Int) / 8) 1 = (v.val : Int) / 8 % 2 ∧ Go.bits .and .u8 ((v.val : Int) / 4) 1 = (v.val : Int) / 4 % 2 ∧ Go.bits .and .u8 ((v.val : Int) / 2) 1 = (v.val : Int) / 2 % 2 ∧ Go.bits .and .u8 (v.val : Int) 1 = (v.val : Int) % 2 := by decide +kernel

theorem run_index_box_i (k : Nat) (hk : k < 8) (i : Int) (h0 : 0 ≤ i) (h1 : i < 64) (W : World) :
    (Instr.index 9 (.string ⟨(boxT.getD k []).toArray⟩) (.int .i64 i)).run Tryd.prog W = .ok (.int .u8 (boxC k i.toNat)) W := by
  have hs := box_size k hk
  unfold boxC
  generalize boxT.getD k [] = B at *
  have hsz : (ByteArray.mk B.toArray).size = 64 := by simp [ByteArray.size, hs]
  rw [run_index_string _ _ _ _ _ Tryd.underlying9, dif_pos ⟨h0, by rw [hsz]; omega⟩]
  have : ((ByteArray.mk B.toArray)[i.toNat]'(by rw [hsz]; omega)) = B.getD i.toNat 0 := by
    show B.toArray[i.toNat]'(by simp [hs]; omega) = _
    rw [List.getElem_toArray, List.getD_eq_getElem?_getD, List.getElem?_eq_getElem (by omega)]
    rfl
  rw [this]
theorem new_C (w : World) (e : TypeId) (xs : List Int) (h : xs.length ≤ 9223372036854775807) : Kd.C (Kd.int .u8) (w.alloc (.cells (nums .u8 xs).toArray e)) (some ⟨w.heap.size, 0, none⟩) xs.length xs :=
  (Kd.R_reads' (Blk.R (base := 0) (Blk.new w .u8 e xs) (Nat.zero_le _) rfl h)).2.2
set_option maxHeartbeats 4000000 in
theorem spec_l1Round.calls0 (A0 : Option Addr) (c0 : Nat) (l0 : List Int) (A1 : Option Addr) (c1 : Nat) (l1 : List Int) (w : World) (hr0 : Kd.C (Kd.int .u8) w A0 l0.length l0) (hc0 : l0.length ≤ c0) (hr1 : Kd.C (Kd.int .u8) w A1 l1.length l1) (hc1 : l1.length ≤ c1)
    (h0 : l0.length = 32) (hb0 : Bits l0) (h1 : l1.length = 48) (hb1 : Bits l1) :
    Calls Tryd.prog 46 #[.slice A0 l0.length c0, .slice A1 l1.length c1] w fun e w' => ∃ v0_ : Value, e = .returned (v0_) ∧ Kd.R (Kd.int .u8) 5 w' w.heap.size (fun _ => True) v0_ (roundB l0 l1) ∧ Below w.heap.size w w' := by
  have HR0 := Aside0.mk hr0
  have HC0 := Aside0.mk hc0
  have HR1 := Aside0.mk hr1
  have HC1 := Aside0.mk hc1
  have hp1 := Aside0.mk (spec_pick_eq l0 tE (by omega) (by decide) (by rw [h0]; exact within_e) 100 (by decide))
  have hpb : Bits (pickB l0 tE) := pickB_bits hb0 _
  have hpl : (pickB l0 tE).length = 48 := pickB_length _ _
  have hx1 := Aside0.mk (spec_xor_eq (pickB l0 tE) l1 (by rw [hpl, h1]; exact Nat.le_refl _) (by omega) 100 (by omega))
  rw [xorL_bits hpb hb1] at hx1
  have hxb := Aside0.mk (xorB_bits (pickB l0 tE) l1)
  have hxl := Aside0.mk ((xorB_length (pickB l0 tE) l1 (by rw [hpl, h1])).trans hpl)
  obtain ⟨x, hx⟩ : ∃ x, x = xorB (pickB l0 tE) l1 := ⟨_, rfl⟩
  have hres : Aside0 (roundB l0 l1 = pickB (boxesTo x 8) tP) := ⟨by rw [hx]; rfl⟩
  rw [← hx] at hx1 hxb hxl
  rw [hres.out]
  clear hr0 hr1 hc0 hc1 h0 hb0 h1 hb1 hpb hpl hx
  go_enter Tryd.func46, Tryd.ntmps46
  go_wp2_with (first | (go_at_call 70; go_must (refine (spec_l1E.calls 100 tE _ spec_e_eq).mono ?_; rintro e w1 ⟨v1, rfl, hR, hb⟩; obtain ⟨Ae, ce, ee⟩ := Kd.R_slice hR; subst ee; have HE := Aside0.mk (Kd.R_reads' hR).2; have B1 := Aside0.mk hb; clear hR hb)) | (go_at_call 42; go_must (refine (spec_l1Pick.calls 100 _ _ l0 _ _ tE _ _ (Kd.C_below HR0.out B1.out) HC0.out HE.out.2 HE.out.1 hp1.out).mono ?_; rintro e w2 ⟨v2, rfl, hR, hb⟩; obtain ⟨Ap, cp, ep⟩ := Kd.R_slice hR; subst ep; have HP := Aside0.mk (Kd.R_reads' hR).2; have B2 := Aside0.mk (below_step B1.out hb); clear hR hb)) | (go_at_call 45; go_must (refine (spec_l1Xor.calls 100 _ _ (pickB l0 tE) _ _ l1 _ _ HP.out.2 HP.out.1 (Kd.C_below HR1.out B2.out) HC1.out hx1.out).mono ?_; rintro e w3 ⟨v3, rfl, hR, hb⟩; obtain ⟨Ax, cx, ex⟩ := Kd.R_slice hR; subst ex; obtain ⟨gx, egx, _⟩ := R_own hR (by rw [hxl.out]; decide); subst egx; have HX := Aside0.mk (Kd.R_reads' hR).2; have B3 := Aside0.mk (below_step B2.out hb); clear hR hb)))
  go_loopw [6, 7, 8, 9, 10, 11] (fun v6 v7 v8 v9 v10 v11 wr => ∃ k : Nat, k ≤ 8 ∧ v7 = .int .i64 k ∧ Aside0 (Kd.R (Kd.int .u8) 5 wr w3.heap.size (fun _ => True) v6 (boxesTo x k)) ∧ Aside0 (Below w3.heap.size w3 wr))
    (fun _ v7 _ _ _ _ _ => 8 - (intOf v7).toNat)
  case atStart => exact ⟨0, by omega, rfl, ⟨Kd.R_nil _ _ _ _ _⟩, ⟨Below.refl _ _⟩⟩
  case round =>
    obtain ⟨k, hk, rfl, HO, HW⟩ := hrel
    by_cases hlt : k < 8
    · have hxk := Kd.C_below HX.out.2 HW.out
      have ce : ∀ j, j < 6 → wr.cell? ⟨gx, 6 * k + j, none⟩ = some (.int .u8 (nth x (6 * k + j))) := fun j hj => own_cell hxk (6 * k + j) (by rw [hxl.out]; omega)
      have ce0 := ce 0 (by omega)
      have ce1 := ce 1 (by omega)
      have ce2 := ce 2 (by omega)
      have ce3 := ce 3 (by omega)
      have ce4 := ce 4 (by omega)
      have ce5 := ce 5 (by omega)
      rw [Nat.add_zero] at ce0
      clear ce hxk
      have n0 := hxb.out.nth (6 * k)
      have n1 := hxb.out.nth (6 * k + 1)
      have n2 := hxb.out.nth (6 * k + 2)
      have n3 := hxb.out.nth (6 * k + 3)
      have n4 := hxb.out.nth (6 * k + 4)
      have n5 := hxb.out.nth (6 * k + 5)
      have hpl : Aside0 (place (x.drop (6 * k)) = (nth x (6 * k) * 2 + nth x (6 * k + 5)) * 16 + (nth x (6 * k + 1) * 8 + nth x (6 * k + 2) * 4 + nth x (6 * k + 3) * 2 + nth x (6 * k + 4))) := ⟨by unfold place; rw [nth_drop, nth_drop, nth_drop, nth_drop, nth_drop, nth_drop]; rfl⟩
      obtain ⟨b0, hb0⟩ : ∃ b, b = nth x (6 * k) := ⟨_, rfl⟩
      obtain ⟨b1, hb1⟩ : ∃ b, b = nth x (6 * k + 1) := ⟨_, rfl⟩
      obtain ⟨b2, hb2⟩ : ∃ b, b = nth x (6 * k + 2) := ⟨_, rfl⟩
      obtain ⟨b3, hb3⟩ : ∃ b, b = nth x (6 * k + 3) := ⟨_, rfl⟩
      obtain ⟨b4, hb4⟩ : ∃ b, b = nth x (6 * k + 4) := ⟨_, rfl⟩
      obtain ⟨b5, hb5⟩ : ∃ b, b = nth x (6 * k + 5) := ⟨_, rfl⟩
      rw [← hb0] at ce0 n0
      rw [← hb1] at ce1 n1
      rw [← hb2] at ce2 n2
      rw [← hb3] at ce3 n3
      rw [← hb4] at ce4 n4
      rw [← hb5] at ce5 n5
      rw [← hb0, ← hb1, ← hb2, ← hb3, ← hb4, ← hb5] at hpl
      clear hb0 hb1 hb2 hb3 hb4 hb5
      have m0 : 0 ≤ b0 ∧ b0 ≤ 1 := by omega
      have m1 : 0 ≤ b1 ∧ b1 ≤ 1 := by omega
      have m2 : 0 ≤ b2 ∧ b2 ≤ 1 := by omega
      have m3 : 0 ≤ b3 ∧ b3 ≤ 1 := by omega
      have m4 : 0 ≤ b4 ∧ b4 ≤ 1 := by omega
      have m5 : 0 ≤ b5 ∧ b5 ≤ 1 := by omega
      obtain ⟨m00, m01⟩ := m0
      obtain ⟨m10, m11⟩ := m1
      obtain ⟨m20, m21⟩ := m2
      obtain ⟨m30, m31⟩ := m3
      obtain ⟨m40, m41⟩ := m4
      obtain ⟨m50, m51⟩ := m5
      clear n0 n1 n2 n3 n4 n5
      have hcx := HX.out.1
      rw [hxl.out] at hcx ⊢
      go_wp2
      go_quiet (fail)
      go_wp2
      go_quiet (fail)
      have hi0 : (0 : Int) ≤ (b0 * 2 + b5) * 16 + (b1 * 8 + b2 * 4 + b3 * 2 + b4) ∧ (b0 * 2 + b5) * 16 + (b1 * 8 + b2 * 4 + b3 * 2 + b4) < 64 := by omega
      have hidx := run_index_box_i k hlt _ hi0.1 hi0.2
      have hdg := spec_hex ⟨k, hlt⟩ ⟨((b0 * 2 + b5) * 16 + (b1 * 8 + b2 * 4 + b3 * 2 + b4)).toNat, by omega⟩
      simp only [] at hdg
      obtain ⟨dg0, dg1, dg2⟩ := hdg
      have hst : Aside0 (boxesTo x (k + 1) = boxesTo x k ++ nib (hexv (boxC k ((b0 * 2 + b5) * 16 + (b1 * 8 + b2 * 4 + b3 * 2 + b4)).toNat))) := ⟨by rw [boxesTo, boxB, hpl.out]⟩
      obtain ⟨B, hB⟩ : ∃ B : ByteArray, B = ⟨(boxT.getD k []).toArray⟩ := ⟨_, rfl⟩
      have KB := Aside0.mk (fun (w1 : World) => spec_l1Box.calls (k : Int) _ w1 (spec_box k hlt))
      rw [← hB] at hidx KB
      obtain ⟨v, hv⟩ : ∃ v, v = hexv (boxC k ((b0 * 2 + b5) * 16 + (b1 * 8 + b2 * 4 + b3 * 2 + b4)).toNat) := ⟨_, rfl⟩
      rw [← hv] at dg0 dg1 dg2 hst
      obtain ⟨ch, hch⟩ : ∃ ch, ch = boxC k ((b0 * 2 + b5) * 16 + (b1 * 8 + b2 * 4 + b3 * 2 + b4)).toNat := ⟨_, rfl⟩
      rw [← hch] at dg0 hidx
      have KD := Aside0.mk (fun (w1 : World) => spec_l1Hex.calls ch v w1 dg0)
      have hna := nib_and ⟨v.toNat, by omega⟩
      simp only [show ((v.toNat : Nat) : Int) = v by omega] at hna
      obtain ⟨na0, na1, na2, na3⟩ := hna
      clear hB hv hch dg0 hi0 hpl ce0 ce1 ce2 ce3 ce4 ce5 hcx
      have hn4 : (nib v).length ≤ 9223372036854775807 := by simp [nib]
      go_wp2_with (first | (go_at_call 72; go_must (refine (KB.out _).mono ?_; rintro e w4 ⟨rfl, hb4⟩; have HB4 := Aside0.mk (below_then (pw_below_drewN (Below.refl wr.heap.size wr) _) (Nat.le_refl _) hb4); clear hb4)) | (go_at_call 71; go_must (refine (KD.out _).mono ?_; rintro e w5 ⟨rfl, ⟨nd, rfl⟩⟩)) | ((with_reducible refine gate_builtin (b := .append) (xs := #[.tmp 64, .tmp 76]) rfl ?_); at_builtin; go_must (refine Kd.R_append_rows (Kd.int .u8) (w0 := w3) w3.heap.size rfl (.tmp 64) (.tmp 76) 22 5 (.int .u8 0) 1 rfl Tryd.underlying22 info5 rfl (by decide) (by omega) u6 (boxesTo x k) (nib v) _ _ _ (fun _ => True) (fun _ => False) rfl rfl ?aO ?aR (fun _ _ h => h) (fun _ h => h.elim) ?aF ?aB ?aS ?aL ?_; (case aR => exact new_C (w4.drewN nd) 5 (nib v) hn4); (case aO => exact Kd.R_alloc (Kd.R_drewN (Kd.R_below HO.out HB4.out) nd) _); (case aF => intro k hk; trivial); (case aB => exact (pw_below_drewN (below_step HW.out HB4.out) nd).alloc (below_step HW.out HB4.out).size _); (case aS => have h_ := (below_step HW.out HB4.out).size; simp; omega); (case aL => rw [boxesTo_length]; simp; omega); intro v1 w6 ho hb hg hat; rw [← hst.out] at ho; have HO1 := Aside0.mk ho; have HW1 := Aside0.mk hb; clear ho hb hg hat HO HW)))
      go_roundw
      case rel => exact ⟨k + 1, by omega, by go_num, HO1, HW1⟩
      case measure => simp [intOf]; omega
    · obtain rfl : k = 8 := by omega
      have hl32 := boxesTo_length x 8
      have hp2 := Aside0.mk (spec_pick_eq (boxesTo x 8) tP (by omega) (by decide) (by rw [hl32]; exact within_p) 100 (by decide))
      obtain ⟨Ao, co, eo⟩ := Kd.R_slice HO.out
      subst eo
      have HO2 := Aside0.mk (Kd.R_reads' HO.out).2
      clear hl32
      go_wp2_with (first | (go_at_call 73; go_must (refine (spec_l1P.calls tP _ rfl).mono ?_; rintro e w7 ⟨v7, rfl, hR, hb⟩; obtain ⟨At, ct, et⟩ := Kd.R_slice hR; subst et; have HT := Aside0.mk (Kd.R_reads' hR).2; have B7 := Aside0.mk hb; clear hR hb)) | (go_at_call 42; go_must (refine (spec_l1Pick.calls 100 _ _ (boxesTo x 8) _ _ tP _ _ (Kd.C_below HO2.out.2 B7.out) HO2.out.1 HT.out.2 HT.out.1 hp2.out).mono ?_; rintro e w8 ⟨v8, rfl, hR, hb⟩; have HR8 := Aside0.mk hR; have B8 := Aside0.mk hb; clear hR hb)))
      go_ret
      have hbb := below_step B3.out (below_step HW.out B7.out)
      exact ⟨_, rfl, Kd.R_lower HR8.out hbb.size, below_step hbb B8.out⟩
end Go.Proofs.YtbjlpdfhjapbkaaDoor

namespace Go.Proofs.YtbjlpdfhjapbkaaDoor
open Go.RowKit Go.Proofs.YtbjlpdfhjapbkaaDoorW.PrintWords Go.Proofs.YtbjlpdfhjapbkaaDoorW.PrintLast Go.Proofs.YtbjlpdfhjapbkaaDoorW.PrintMore Go.Proofs.YtbjlpdfhjapbkaaDoor.D Go.Proofs.YtbjlpdfhjapbkaaDoor.B
set_option linter.unusedVariables false

theorem info22 : (Tryd.prog.info? 22).map (fun i => (i.zero, i.size, i.bytes)) = some (some (.slice none 0 0), 1, 24) := by kernel_rfl
theorem C_grown {w w1 : World} {k : IntKind} {ad : Addr} {n : Nat} {xs : List Int} {row : Option Nat} (h : Kd.C (Kd.int k) w (some ad) n xs) (hg : w.grownBy w1 row) (hne : some ad.block ≠ row) : Kd.C (Kd.int k) w1 (some ad) n xs := by
  obtain ⟨h1, h2, h3⟩ := h
  refine ⟨h1, h2, fun hn => ?_⟩
  obtain ⟨ad', e, hc⟩ := h3 hn
  cases e
  refine ⟨ad, rfl, fun j p hp => ?_⟩
  obtain ⟨c, hl, hk, hcell⟩ := hc j p hp
  refine ⟨c, hl, hk, fun i u hu => hg.cell (hcell i u hu) ?_⟩
  have : (ad.add (j * (Kd.int k).sz + i)).block = ad.block := by unfold Addr.add; split <;> rfl
  rw [this]
  exact hne
theorem C_at {w : World} {k : IntKind} {g o n : Nat} {xs : List Int} (h : Kd.C (Kd.int k) w (some ⟨g, o, none⟩) n xs) (i m : Nat) (hm : m + i ≤ n) : Kd.C (Kd.int k) w (some ⟨g, o + i, none⟩) m ((xs.drop i).take m) := by
  obtain ⟨h1, h2, h3⟩ := h
  refine ⟨by rw [List.length_take, List.length_drop]; omega, by omega, fun hn => ?_⟩
  obtain ⟨ad', e, hc⟩ := h3 (by omega)
  cases e
  refine ⟨_, rfl, fun j p hp => ?_⟩
  have hj : j < m := by
    rcases Nat.lt_or_ge j m with h' | h'
    · exact h'
    · rw [List.getElem?_eq_none (by rw [List.length_take]; omega)] at hp; cases hp
  rw [List.getElem?_take_of_lt hj, List.getElem?_drop] at hp
  obtain ⟨c, hl, hk, hcell⟩ := hc (i + j) p hp
  refine ⟨c, hl, hk, fun q u hu => ?_⟩
  have := hcell q u hu
  have hs : (Kd.int k).sz = 1 := rfl
  rw [Addr.add_mid] at this ⊢
  rw [hs] at this ⊢
  rw [show o + i + (j * 1 + q) = o + ((i + j) * 1 + q) by omega]
  exact this

theorem bytes_part (gc oc cc n : Nat) (ci : List Int) (hl : ci.length = 28) (hn : n ≤ 28) (w : World) (h : Kd.C (Kd.int .u8) w (some ⟨gc, oc, none⟩) 28 ci) (hcc : 28 ≤ cc) :
    Calls Tryd.prog 47 #[.slice (some ⟨gc, oc + n, none⟩) (28 - n) (cc - n)] w fun e w' => ∃ v0_ : Value, e = .returned (v0_) ∧ Kd.R (Kd.int .u8) 5 w' w.heap.size (fun _ => True) v0_ (ci.drop n) ∧ Below w.heap.size w w' := by
  have hlen : (ci.drop n).length = 28 - n := by rw [List.length_drop, hl]
  have hC := C_at h n (28 - n) (by omega)
  rw [List.take_of_length_le (by omega)] at hC
  have := spec_l1Bytes.calls (some ⟨gc, oc + n, none⟩) (cc - n) (ci.drop n) (ci.drop n) w (by rw [hlen]; exact hC) (by omega) (by unfold spec_l1Bytes.f; rw [if_pos (by omega)])
  rwa [hlen] at this
theorem turn_row {w0 w : World} {v : Value} {ci : List Int} {n : Nat} (h : Kd.R (Kd.int .u8) 5 w w0.heap.size (fun _ => True) v (ci.drop n ++ ci.take n)) (hl : ci.length = 28) (hn : n ≤ 28) (hb : Below w0.heap.size w0 w) :
    ∃ g cap : Nat, v = .slice (some ⟨g, 0, none⟩) 28 cap ∧ 28 ≤ cap ∧ Aside0 (w0.heap.size ≤ g ∧ Kd.C (Kd.int .u8) w (some ⟨g, 0, none⟩) 28 (turnB n ci)) ∧ Aside0 (Below w0.heap.size w0 w) := by
  have hlen : (ci.drop n ++ ci.take n).length = 28 := by rw [List.length_append, List.length_drop, List.length_take, hl]; omega
  obtain ⟨A, cap, e⟩ := Kd.R_slice h
  subst e
  obtain ⟨g, eg, hg⟩ := R_own h (by omega)
  subst eg
  have hr := (Kd.R_reads' h).2
  rw [hlen] at hr ⊢
  exact ⟨g, cap, rfl, hr.1, ⟨hg, hr.2⟩, ⟨hb⟩⟩
theorem bytes_whole (g cc : Nat) (ci : List Int) (hl : ci.length = 28) (w : World) (h : Kd.C (Kd.int .u8) w (some ⟨g, 0, none⟩) 28 ci) (hcc : 28 ≤ cc) :
    Calls Tryd.prog 47 #[.slice (some ⟨g, 0, none⟩) 28 cc] w fun e w' => ∃ v0_ : Value, e = .returned (v0_) ∧ Kd.R (Kd.int .u8) 5 w' w.heap.size (fun _ => True) v0_ ci ∧ Below w.heap.size w w' := by
  have := spec_l1Bytes.calls (some ⟨g, 0, none⟩) cc ci ci w (by rw [hl]; exact h) (by omega) (by unfold spec_l1Bytes.f; rw [if_pos (by omega)])
  rwa [hl] at this
theorem pick56 (A0 : Option Addr) (c0 : Nat) (l0 : List Int) (hl : l0.length = 56) (A1 : Option Addr) (c1 : Nat) (l1 : List Int) (r : List Int) (w : World) (hr0 : Kd.C (Kd.int .u8) w A0 56 l0) (hc0 : 56 ≤ c0) (hr1 : Kd.C (Kd.int .i64) w A1 l1.length l1) (hc1 : l1.length ≤ c1) (h : spec_l1Pick.f 100 l0 l1 = some r) :
    Calls Tryd.prog 42 #[.slice A0 56 c0, .slice A1 l1.length c1] w fun e w' => ∃ v0_ : Value, e = .returned (v0_) ∧ Kd.R (Kd.int .u8) 5 w' w.heap.size (fun _ => True) v0_ r ∧ Below w.heap.size w w' := by
  have := spec_l1Pick.calls 100 A0 c0 l0 A1 c1 l1 r w (by rw [hl]; exact hr0) (by omega) hr1 hc1 h
  rwa [hl] at this
theorem C_lt {w : World} {k : IntKind} {g o n : Nat} {xs : List Int} (h : Kd.C (Kd.int k) w (some ⟨g, o, none⟩) n xs) (hn : 0 < n) : g < w.heap.size := by
  obtain ⟨h1, h2, h3⟩ := h
  subst h1
  obtain ⟨ad, e, hc⟩ := C_cells (show Kd.C (Kd.int k) w (some ⟨g, o, none⟩) xs.length xs from ⟨rfl, h2, h3⟩) hn
  cases e
  have h0 : (nums k xs)[0]? = some (.int k (xs[0]'hn)) := by simp [nums, hn]
  have := World.block_lt_of_cell? w _ (hc 0 _ h0)
  exact this
set_option maxHeartbeats 4000000 in
theorem spec_l1Keys.calls0 (A0 : Option Addr) (c0 : Nat) (l0 : List Int) (w : World) (hr0 : Kd.C (Kd.int .u8) w A0 l0.length l0) (hc0 : l0.length ≤ c0) (h0 : l0.length = 8) (hb0 : Bytes l0) :
    Calls Tryd.prog 41 #[.slice A0 l0.length c0] w fun e w' => ∃ v0_ : Value, e = .returned (v0_) ∧ Kd.R (Kd.slice 5 (Kd.int .u8)) 22 w' w.heap.size (fun _ => True) v0_ (keysB l0) ∧ Below w.heap.size w w' := by
  have HR0 := Aside0.mk hr0
  have HC0 := Aside0.mk hc0
  have hbits := Aside0.mk (spec_bits_eq l0 (by omega) hb0 100 (by omega))
  have hl64 : (bitsOf l0).length = 64 := by rw [bitsOf_length, h0]
  have hp1 := Aside0.mk (spec_pick_eq (bitsOf l0) tPC1 (by omega) (by decide) (by rw [hl64]; exact within_pc1) 100 (by decide))
  obtain ⟨cd, hcd⟩ : ∃ cd, cd = pickB (bitsOf l0) tPC1 := ⟨_, rfl⟩
  have hcdb : Bits cd := hcd ▸ pickB_bits (bitsOf_bits _) _
  have hcdl : cd.length = 56 := by rw [hcd, pickB_length]; rfl
  have hkb : keysB l0 = keysFrom turnsL (cd.take 28) (cd.drop 28) := by rw [hcd]; rfl
  rw [← hcd] at hp1
  have HCD := Aside0.mk hcdl
  have hcb : Aside0 (Bits (cd.take 28) ∧ (cd.take 28).length = 28) := ⟨hcdb.take _, by rw [List.length_take]; omega⟩
  have hdb : Aside0 (Bits (cd.drop 28) ∧ (cd.drop 28).length = 28) := ⟨hcdb.drop _, by rw [List.length_drop]; omega⟩
  have htk : (cd.drop 0).take 28 = cd.take 28 := by simp
  have htd : (cd.drop 28).take 28 = cd.drop 28 := List.take_of_length_le (by rw [List.length_drop]; omega)
  rw [hkb]
  obtain ⟨c, hc⟩ : ∃ c, c = cd.take 28 := ⟨_, rfl⟩
  obtain ⟨d, hd⟩ : ∃ d, d = cd.drop 28 := ⟨_, rfl⟩
  rw [← hc] at hcb htk ⊢
  rw [← hd] at hdb ⊢
  have HTK : Aside0 ((cd.drop 0).take 28 = c ∧ (cd.drop 28).take 28 = d) := ⟨htk, by rw [htd, hd]⟩
  clear hr0 hc0 h0 hb0 hl64 hcd hcdb hcdl hkb hc hd htk htd
  go_enter Tryd.func41, Tryd.ntmps41
  go_wp2_with (first | (go_at_call 43; go_must (refine (spec_l1Bits.calls 100 _ _ l0 _ _ HR0.out HC0.out hbits.out).mono ?_; rintro e w1 ⟨v1, rfl, hR, hb⟩; obtain ⟨Ab, cb, eb⟩ := Kd.R_slice hR; subst eb; have HB := Aside0.mk (Kd.R_reads' hR).2; have B1 := Aside0.mk hb; clear hR hb)) | (go_at_call 68; go_must (refine (spec_l1PC1.calls tPC1 _ rfl).mono ?_; rintro e w2 ⟨v2, rfl, hR, hb⟩; obtain ⟨At, ct, et⟩ := Kd.R_slice hR; subst et; have HT := Aside0.mk (Kd.R_reads' hR).2; have HB2 := Aside0.mk (Kd.C_below HB.out.2 hb); have B2 := Aside0.mk (below_step B1.out hb); clear hR hb)) | (go_at_call 42; go_must (refine (spec_l1Pick.calls 100 _ _ (bitsOf l0) _ _ tPC1 _ _ HB2.out HB.out.1 HT.out.2 HT.out.1 hp1.out).mono ?_; rintro e w3 ⟨v3, rfl, hR, hb⟩; obtain ⟨Ap, cp, ep⟩ := Kd.R_slice hR; subst ep; obtain ⟨gp, egp, _⟩ := R_own hR (by rw [HCD.out]; decide); subst egp; have HP := Aside0.mk (Kd.R_reads' hR).2; have B3 := Aside0.mk (below_step B2.out hb); clear hR hb; have hcp := HP.out.1; rw [HCD.out] at hcp ⊢)))
  have hT0 : Blk (w3.alloc (.cells #[.int .i64 1, .int .i64 1, .int .i64 2, .int .i64 2, .int .i64 2, .int .i64 2, .int .i64 2, .int .i64 2, .int .i64 1, .int .i64 2, .int .i64 2, .int .i64 2, .int .i64 2, .int .i64 2, .int .i64 2, .int .i64 1] 3)) w3.heap.size .i64 3 (turnsL.map fun (n : Nat) => (n : Int)) := blk_new w3 (.cells (nums .i64 (turnsL.map fun (n : Nat) => (n : Int))).toArray 3)
  have hB0 : Below w.heap.size w (w3.alloc (.cells #[.int .i64 1, .int .i64 1, .int .i64 2, .int .i64 2, .int .i64 2, .int .i64 2, .int .i64 2, .int .i64 2, .int .i64 1, .int .i64 2, .int .i64 2, .int .i64 2, .int .i64 2, .int .i64 2, .int .i64 2, .int .i64 1] 3)) := B3.out.alloc B3.out.size _
  have hP0 := Kd.C_alloc HP.out.2 (.cells #[.int .i64 1, .int .i64 1, .int .i64 2, .int .i64 2, .int .i64 2, .int .i64 2, .int .i64 2, .int .i64 2, .int .i64 1, .int .i64 2, .int .i64 2, .int .i64 2, .int .i64 2, .int .i64 2, .int .i64 2, .int .i64 1] 3)
  rw [HCD.out] at hP0
  have hc1 := C_at hP0 0 28 (by omega)
  have hd1 := C_at hP0 28 28 (by omega)
  rw [HTK.out.1] at hc1
  rw [HTK.out.2, Nat.zero_add] at hd1
  obtain ⟨gt, hgt⟩ : ∃ gt, gt = w3.heap.size := ⟨_, rfl⟩
  rw [← hgt] at hT0 ⊢
  have HT0 := Aside0.mk hT0
  have HB0 := Aside0.mk hB0
  have HCc := Aside0.mk hc1
  have HCd := Aside0.mk hd1
  clear hT0 hB0 hP0 hc1 hd1 hgt
  go_loopw [4, 5, 6, 8, 19] (fun v4 v5 v6 v8 v19 wr => ∃ (i gc oc cc gd od cdd : Nat), i ≤ 16 ∧ v19 = .int .i64 i ∧ v4 = .slice (some ⟨gc, oc, none⟩) 28 cc ∧ v5 = .slice (some ⟨gd, od, none⟩) 28 cdd ∧ 28 ≤ cc ∧ 28 ≤ cdd ∧
      Aside0 (Kd.C (Kd.int .u8) wr (some ⟨gc, oc, none⟩) 28 (turnsTo (turnsL.take i) c)) ∧ Aside0 (Kd.C (Kd.int .u8) wr (some ⟨gd, od, none⟩) 28 (turnsTo (turnsL.take i) d)) ∧
      Aside0 (Kd.R (Kd.slice 5 (Kd.int .u8)) 22 wr w.heap.size (fun _ => True) v6 (keysFrom (turnsL.take i) c d)) ∧ Aside0 (∀ g, v6.ownBlock = some g → g ≠ gc ∧ g ≠ gd ∧ g ≠ gt) ∧
      Aside0 (Blk wr gt .i64 3 (turnsL.map fun (n : Nat) => (n : Int))) ∧ Aside0 (Below w.heap.size w wr))
    (fun _ _ _ _ v19 _ => 16 - (intOf v19).toNat)
  case atStart => exact ⟨0, gp, 0, cp, gp, 28, cp - 28, by omega, rfl, rfl, rfl, by omega, by omega, HCc, HCd, ⟨Kd.R_nil _ _ _ _ _⟩, ⟨fun g hg => by cases hg⟩, HT0, HB0⟩
  case round =>
    obtain ⟨i, gc, oc, cc, gd, od, cdd, hi, rfl, rfl, rfl, hcc, hcdd, G1, G2, G3, G4, G5, G6⟩ := hrel
    by_cases hlt : i < 16
    · have hcell := G5.out.cell i hlt
      have hnth : nth (turnsL.map fun (n : Nat) => (n : Int)) i = (turnAt i : Int) := by
        have : ∀ j : Fin 16, nth (turnsL.map fun (n : Nat) => (n : Int)) j.val = (turnAt j.val : Int) := by decide
        exact this ⟨i, hlt⟩
      rw [hnth] at hcell
      have hst := Aside0.mk (show keysFrom (turnsL.take (i + 1)) c d = keysFrom (turnsL.take i) c d ++ [pickB (turnB (turnAt i) (turnsTo (turnsL.take i) c) ++ turnB (turnAt i) (turnsTo (turnsL.take i) d)) tPC2] by rw [turns_take i hlt]; exact keysFrom_snoc _ _ c d)
      have ec : turnsTo (turnsL.take (i + 1)) c = turnB (turnAt i) (turnsTo (turnsL.take i) c) := by rw [turns_take i hlt, turnsTo_snoc]
      have ed : turnsTo (turnsL.take (i + 1)) d = turnB (turnAt i) (turnsTo (turnsL.take i) d) := by rw [turns_take i hlt, turnsTo_snoc]
      have hgc := turnsTo_good (turnsL.take i) c hcb.out.1
      have hgd := turnsTo_good (turnsL.take i) d hdb.out.1
      rw [hcb.out.2] at hgc
      rw [hdb.out.2] at hgd
      have hn := turnAt_12 i hlt
      have EC := Aside0.mk ec
      have ED := Aside0.mk ed
      have HGC := Aside0.mk hgc
      have HGD := Aside0.mk hgd
      obtain ⟨n, hnn⟩ : ∃ n, n = turnAt i := ⟨_, rfl⟩
      rw [← hnn] at hn hcell hst EC ED
      obtain ⟨ci, hci⟩ : ∃ ci, ci = turnsTo (turnsL.take i) c := ⟨_, rfl⟩
      obtain ⟨di, hdi⟩ : ∃ di, di = turnsTo (turnsL.take i) d := ⟨_, rfl⟩
      rw [← hci] at hst EC HGC G1
      rw [← hdi] at hst ED HGD G2
      clear hnth ec ed hgc hgd hnn hci hdi
      have hn0 : 0 < n ∧ n ≤ 2 := by omega
      obtain ⟨hn1, hn2⟩ := hn0
      have i0 : (0 : Int) ≤ (n : Int) := by omega
      have i1 : (n : Int) ≤ 28 := by omega
      have i2 : ¬ cc = n := by omega
      have i4 : n ≤ cc := by omega
      have i5 : n ≤ cdd := by omega
      have e28 : Aside0 ((ci.drop n).length = 28 - n) := ⟨by rw [List.length_drop, HGC.out.2]⟩
      have e28d : Aside0 ((di.drop n).length = 28 - n) := ⟨by rw [List.length_drop, HGD.out.2]⟩
      have i3 : ¬ cdd = n := by omega
      clear hn
      go_upto_region 8 with fail
      have KB := Aside0.mk (fun (w1 : World) (h : Kd.C (Kd.int .u8) w1 (some ⟨gc, oc, none⟩) 28 ci) => bytes_part gc oc cc n ci HGC.out.2 (by omega) w1 h hcc)
      go_cut [4] from 20 to 48 (fun s4 wc => ∃ g cap : Nat, s4 = .slice (some ⟨g, 0, none⟩) 28 cap ∧ 28 ≤ cap ∧ Aside0 (wr.heap.size ≤ g ∧ Kd.C (Kd.int .u8) wc (some ⟨g, 0, none⟩) 28 (turnB n ci)) ∧ Aside0 (Below wr.heap.size wr wc))
      case first =>
        go_region_law (first | (refine Kd.R_append_rows_step (Kd.int .u8) (w0 := wr) wr.heap.size (by rfl) (.tmp 26) (.tmp 29) 22 5 (.int .u8 0) 1 rfl Tryd.underlying22 info5 rfl (by decide) (by omega) (.slice Aq (28 - n) cq) (ci.drop n) (ci.take n) _ _ _ (fun _ => True) (fun _ => False) rfl rfl ?aO ?aR (fun _ _ h => h) (fun _ h => h.elim) ?aF ?aB ?aS ?aL ?_; (case aO => exact HQ.out); (case aR => exact C_at (Kd.C_below G1.out HB4.out) 0 n (by omega)); (case aF => intro k hk; trivial); (case aB => exact HB4.out); (case aS => exact HB4.out.size); (case aL => rw [List.length_drop, HGC.out.2]; omega); intro v1 w6 ho hb hg hat; have HO1 := Aside0.mk ho; have HW1 := Aside0.mk hb; clear ho hb hg hat) | (go_simp; go_at_call 47; go_must (refine (KB.out _ ?tt).mono ?_; (case tt => exact Kd.C_below G1.out (below_drew1 (Below.refl _ _))); rintro e w4 ⟨v4, rfl, hR, hb⟩; obtain ⟨Aq, cq, eq⟩ := Kd.R_slice hR; rw [e28.out] at eq; subst eq; have HQ := Aside0.mk (Kd.R_lower hR (Nat.le_refl wr.heap.size)); have HB4 := Aside0.mk (below_then (below_drew1 (Below.refl wr.heap.size wr)) (Nat.le_refl _) hb); clear hR hb)))
        all_goals (try go_simp)
        all_goals (try go_wp2)
        all_goals go_meet
        all_goals (case rel => exact turn_row HO1.out HGC.out.2 (by omega) HW1.out)
      case rest =>
        obtain ⟨gc1, cc1, rfl, hcc1, hG1, hW1⟩ := hcut
        have G2c := Aside0.mk (Kd.C_below G2.out hW1.out)
        have KBd := Aside0.mk (fun (w1 : World) (h : Kd.C (Kd.int .u8) w1 (some ⟨gd, od, none⟩) 28 di) => bytes_part gd od cdd n di HGD.out.2 (by omega) w1 h hcdd)
        go_upto_region 9 with fail
        go_cut [5] from 20 to 48 (fun s5 wd => ∃ g cap : Nat, s5 = .slice (some ⟨g, 0, none⟩) 28 cap ∧ 28 ≤ cap ∧ Aside0 (wc.heap.size ≤ g ∧ Kd.C (Kd.int .u8) wd (some ⟨g, 0, none⟩) 28 (turnB n di)) ∧ Aside0 (Below wc.heap.size wc wd))
        case first =>
          go_region_law (first | (refine Kd.R_append_rows_step (Kd.int .u8) (w0 := wc) wc.heap.size (by rfl) (.tmp 34) (.tmp 37) 22 5 (.int .u8 0) 1 rfl Tryd.underlying22 info5 rfl (by decide) (by omega) (.slice Aq (28 - n) cq) (di.drop n) (di.take n) _ _ _ (fun _ => True) (fun _ => False) rfl rfl ?aO ?aR (fun _ _ h => h) (fun _ h => h.elim) ?aF ?aB ?aS ?aL ?_; (case aO => exact HQ.out); (case aR => exact C_at (Kd.C_below G2c.out HB4.out) 0 n (by omega)); (case aF => intro k hk; trivial); (case aB => exact HB4.out); (case aS => exact HB4.out.size); (case aL => rw [List.length_drop, HGD.out.2]; omega); intro v1 w6 ho hb hg hat; have HO1 := Aside0.mk ho; have HW1 := Aside0.mk hb; clear ho hb hg hat) | (go_simp; go_at_call 47; go_must (refine (KBd.out _ ?tt).mono ?_; (case tt => exact Kd.C_below G2c.out (below_drew1 (Below.refl _ _))); rintro e w4 ⟨v4, rfl, hR, hb⟩; obtain ⟨Aq, cq, eq⟩ := Kd.R_slice hR; rw [e28d.out] at eq; subst eq; have HQ := Aside0.mk (Kd.R_lower hR (Nat.le_refl wc.heap.size)); have HB4 := Aside0.mk (below_then (below_drew1 (Below.refl wc.heap.size wc)) (Nat.le_refl _) hb); clear hR hb)))
          all_goals (try go_simp)
          all_goals (try go_wp2)
          all_goals go_meet
          all_goals (case rel => exact turn_row HO1.out HGD.out.2 (by omega) HW1.out)
        case rest =>
          obtain ⟨gd1, cd1, rfl, hcd1, hG2, hW2⟩ := hcut
          have hcl : Aside0 ((turnB n ci).length = 28) := ⟨by rw [turnB_length]; exact HGC.out.2⟩
          have hdl : Aside0 ((turnB n di).length = 28) := ⟨by rw [turnB_length]; exact HGD.out.2⟩
          have hap : (turnB n ci ++ turnB n di).length = 56 := by rw [List.length_append, hcl.out, hdl.out]
          have hpk := Aside0.mk (spec_pick_eq (turnB n ci ++ turnB n di) tPC2 (by omega) (by decide) (by rw [hap]; exact within_pc2) 100 (by decide))
          have HAP := Aside0.mk hap
          have HCc1 := Aside0.mk (Kd.C_below hG1.out.2 hW2.out)
          have hwr : Aside0 (Below wr.heap.size wr wc) := ⟨below_step hW1.out hW2.out⟩
          obtain ⟨cl, hcl_⟩ : ∃ cl, cl = turnB n ci := ⟨_, rfl⟩
          obtain ⟨dl, hdl_⟩ : ∃ dl, dl = turnB n di := ⟨_, rfl⟩
          rw [← hcl_] at hcl hpk HAP HCc1 hst EC
          rw [← hdl_] at hdl hpk HAP hG2 hst ED
          have KB1 := Aside0.mk (fun (w1 : World) (h : Kd.C (Kd.int .u8) w1 (some ⟨gc1, 0, none⟩) 28 cl) => bytes_whole gc1 cc1 cl hcl.out w1 h hcc1)
          obtain ⟨row, hrow⟩ : ∃ row, row = pickB (cl ++ dl) tPC2 := ⟨_, rfl⟩
          have hrl : Aside0 (row.length = 48) := ⟨by rw [hrow, pickB_length]; rfl⟩
          have hkl : Aside0 ((keysFrom (turnsL.take i) c d).length ≤ 16) := ⟨by rw [keysFrom_length, List.length_take]; exact Nat.le_trans (Nat.min_le_right _ _) (by decide)⟩
          rw [← hrow] at hpk hst
          clear hap hcl_ hdl_ hrow KB KBd
          go_wp2_with (first | (go_at_call 47; go_must (refine (KB1.out _ HCc1.out).mono ?_; rintro e w5 ⟨v5, rfl, hR, hb⟩; obtain ⟨Aq, cq, eq⟩ := Kd.R_slice hR; rw [hcl.out] at eq; subst eq; have HQ := Aside0.mk hR; have HB5 := Aside0.mk hb; clear hR hb)) | (go_at_call 69; go_must (refine (spec_l1PC2.calls tPC2 _ rfl).mono ?_; rintro e w7 ⟨v7, rfl, hR, hb⟩; obtain ⟨At7, ct7, et⟩ := Kd.R_slice hR; subst et; have HT7 := Aside0.mk (Kd.R_reads' hR).2; have HB7 := Aside0.mk hb; clear hR hb)) | (go_at_call 42; go_must (refine (pick56 _ _ (cl ++ dl) HAP.out _ _ tPC2 _ _ (Kd.C_below HA6.out.2 HB7.out) HA6.out.1 HT7.out.2 HT7.out.1 hpk.out).mono ?_; rintro e w8 ⟨v8, rfl, hR, hb⟩; obtain ⟨Ar, cr, er⟩ := Kd.R_slice hR; rw [hrl.out] at er; subst er; have HR8 := Aside0.mk hR; have HB8 := Aside0.mk hb; clear hR hb)) | ((with_reducible refine gate_builtin (b := .append) (xs := #[.tmp 41, .tmp 42]) rfl ?_); at_builtin; go_must (refine Kd.R_append_rows (Kd.int .u8) (w0 := wc) wc.heap.size rfl (.tmp 41) (.tmp 42) 22 5 (.int .u8 0) 1 rfl Tryd.underlying22 info5 rfl (by decide) (by omega) (.slice Aq 28 cq) cl dl _ _ _ (fun _ => True) (fun _ => False) rfl rfl ?aO ?aR (fun _ _ h => h) (fun _ h => h.elim) ?aF ?aB ?aS ?aL ?_; (case aO => exact HQ.out); (case aR => exact Kd.C_below hG2.out.2 HB5.out); (case aF => intro k hk; trivial); (case aB => exact HB5.out); (case aS => exact HB5.out.size); (case aL => rw [hcl.out]; omega); intro v6 w6 ho hb hg hat; obtain ⟨Aa, ca, ea⟩ := Kd.R_slice ho; rw [HAP.out] at ea; subst ea; have HA6 := Aside0.mk (Kd.R_reads' ho).2; rw [HAP.out] at HA6; have HB6 := Aside0.mk hb; clear ho hb hg hat)) | ((with_reducible refine gate_builtin (b := .append) (xs := #[.tmp 39, .tmp 46]) rfl ?_); at_builtin; have BW := Aside0.mk (below_step hwr.out (below_step HB6.out (below_step HB7.out HB8.out))); have S7 := Aside0.mk (below_step hwr.out (below_step HB6.out HB7.out)).size; go_must (refine Kd.R_append (Kd.slice 5 (Kd.int .u8)) (w0 := w) w.heap.size rfl (.tmp 39) (.tmp 46) 47 22 (.slice none 0 0) 24 rfl Tryd.underlying47 info22 rfl (by decide) (by omega) u6 (keysFrom (turnsL.take i) c d) row [.slice Ar 48 cr] (fun _ => True) (fun k_ => some k_ = (.slice Ar 48 cr : Value).ownBlock) rfl rfl ?aP ?aK (fun _ _ => trivial) ?aO ?aB ?aS ?aL ?_; (case aP => exact ⟨_, rfl, Kd.R_tight rfl (Kd.R_lower HR8.out (Nat.le_trans G6.out.size S7.out))⟩); (case aK => intro k hk; refine ⟨trivial, fun e => ?_⟩; have h1 := Kd.R_base HR8.out k hk.symm; have h2 := Kd.R_lt G3.out k e.symm; have h3 := S7.out; omega); (case aO => exact Kd.R_below G3.out BW.out); (case aB => exact below_step G6.out BW.out); (case aS => exact (below_step G6.out BW.out).size); (case aL => have := hkl.out; omega); intro v9 w9 ho hb hg hat; rw [← hst.out] at ho; have HO9 := Aside0.mk ho; have HB9 := Aside0.mk hb; have HG9 := Aside0.mk hg; have HA9 := Aside0.mk hat; clear ho hb hg hat)))
          have BX := below_step HB6.out (below_step HB7.out HB8.out)
          have hlt9 := Kd.R_lt G3.out
          have lc := C_lt HCc1.out (by omega)
          have ld := C_lt hG2.out.2 (by omega)
          have lt_ := G5.out.lt
          have sz1 := hwr.out.size
          have sz2 := BX.size
          have sz3 := hW1.out.size
          have gc1b := hG1.out.1
          have gd1b := hG2.out.1
          have hold : ∀ g, u6.ownBlock = some g → g ≠ gc1 ∧ g ≠ gd1 ∧ g ≠ gt := fun g hg => by
            have h1 := hlt9 g hg
            have h2 := (G4.out g hg).2.2
            exact ⟨by omega, by omega, h2⟩
          have hnew : ∀ g, v9.ownBlock = some g → g ≠ gc1 ∧ g ≠ gd1 ∧ g ≠ gt := fun g hg => by
            rcases HA9.out with e | ⟨b, e, hb⟩
            · exact hold g (e ▸ hg)
            · rw [hg] at e
              injection e with e
              subst e
              exact ⟨by omega, by omega, by omega⟩
          have gC := C_grown (Kd.C_below HCc1.out BX) HG9.out (fun e => (hold gc1 e.symm).1 rfl)
          have gD := C_grown (Kd.C_below hG2.out.2 BX) HG9.out (fun e => (hold gd1 e.symm).2.1 rfl)
          have gT := (G5.out.below (below_step hwr.out BX)).grown HG9.out (fun e => (hold gt e.symm).2.2 rfl)
          go_roundw
          case rel => exact ⟨i + 1, gc1, 0, cc1, gd1, 0, cd1, by omega, by go_num, rfl, rfl, hcc1, hcd1, ⟨by rw [EC.out]; exact gC⟩, ⟨by rw [ED.out]; exact gD⟩, HO9, ⟨hnew⟩, ⟨gT⟩, HB9⟩
          case measure => simp [intOf]; omega
    · obtain rfl : i = 16 := by omega
      go_wp2
      go_ret
      exact ⟨_, rfl, G3.out, G6.out⟩
end Go.Proofs.YtbjlpdfhjapbkaaDoor

namespace Go.Proofs.YtbjlpdfhjapbkaaDoor.D
open Go.Proofs.YtbjlpdfhjapbkaaDoor
set_option linter.unusedVariables false

def outAt (both : List Int) (i : Nat) : List Int := (List.range 64).map fun m => if (nth tINV m).toNat - 1 < i then nth both ((nth tINV m).toNat - 1) else 0
theorem outAt_length (both : List Int) (i : Nat) : (outAt both i).length = 64 := by simp [outAt]
theorem inv_at : ∀ i m : Fin 64, ((nth tINV m.val).toNat - 1 = i.val) = ((nth tIP i.val).toNat - 1 = m.val) := by
  have : ∀ i m : Fin 64, decide ((nth tINV m.val).toNat - 1 = i.val) = decide ((nth tIP i.val).toNat - 1 = m.val) := by decide +kernel
  intro i m
  have h := this i m
  by_cases h1 : (nth tINV m.val).toNat - 1 = i.val
  · have h2 : (nth tIP i.val).toNat - 1 = m.val := of_decide_eq_true (h ▸ decide_eq_true h1)
    simp [h1, h2]
  · have h2 : ¬ (nth tIP i.val).toNat - 1 = m.val := of_decide_eq_false (h ▸ decide_eq_false h1)
    simp [h1, h2]
theorem outAt_zero (both : List Int) : outAt both 0 = List.replicate 64 0 := by
  apply List.ext_getElem
  · simp [outAt]
  · intro i h1 h2
    rw [List.getElem_replicate]
    simp only [outAt, List.getElem_map, List.getElem_range]
    rw [if_neg (Nat.not_lt_zero _)]
theorem outAt_step (both : List Int) (i : Nat) (hi : i < 64) : (outAt both i).set ((nth tIP i).toNat - 1) (nth both i) = outAt both (i + 1) := by
  apply List.ext_getElem
  · simp [outAt]
  · intro m h1 h2
    have hm : m < 64 := by simpa [outAt] using h2
    have h := inv_at ⟨i, hi⟩ ⟨m, hm⟩
    simp only [] at h
    rw [List.getElem_set]
    simp only [outAt, List.getElem_map, List.getElem_range]
    by_cases e : (nth tIP i).toNat - 1 = m
    · have e2 : (nth tINV m).toNat - 1 = i := h ▸ e
      rw [if_pos e, if_pos (by omega), e2]
    · have e2 : ¬ (nth tINV m).toNat - 1 = i := fun x => e (h ▸ x)
      rw [if_neg e]
      by_cases e3 : (nth tINV m).toNat - 1 < i
      · rw [if_pos e3, if_pos (by omega)]
      · rw [if_neg e3, if_neg (by omega)]
theorem outAt_all (both : List Int) : outAt both 64 = pickB both tINV := by
  apply List.ext_getElem
  · simp [outAt, pickB]; rfl
  · intro m h1 h2
    have hm : m < 64 := by simpa [outAt] using h1
    have hs : ∀ m : Fin 64, (nth tINV m.val).toNat - 1 < 64 := by decide +kernel
    simp only [outAt, pickB, List.getElem_map, List.getElem_range]
    rw [if_pos (hs ⟨m, hm⟩), nth_at tINV m hm]
    rfl
theorem dir_list (dec : Bool) (ks : List (List Int)) (hl : ks.length = 16) (hg : ∀ k ∈ ks, Bits k ∧ k.length = 48) (i : Nat) (hi : i < 16) :
    ∃ kk, (dirB dec ks).take (i + 1) = (dirB dec ks).take i ++ [kk] ∧ Bits kk ∧ kk.length = 48 ∧ kk = ks.getD (if dec = true then 15 - i else i) [] := by
  have hdl : (dirB dec ks).length = 16 := by unfold dirB; split <;> simp [hl]
  have hm : (dirB dec ks)[i]'(by omega) ∈ dirB dec ks := List.getElem_mem _
  have hd := dirB_good (dec := dec) hg _ hm
  refine ⟨(dirB dec ks)[i]'(by omega), List.take_succ_eq_append_getElem (by omega), hd.1, hd.2, ?_⟩
  cases dec
  · simp only [Bool.false_eq_true, if_false]
    rw [List.getD_eq_getElem?_getD, List.getElem?_eq_getElem (by omega)]
    rfl
  · simp only [if_true]
    rw [List.getD_eq_getElem?_getD, List.getElem?_eq_getElem (by omega)]
    show ks.reverse[i]'(by simp [hl]; omega) = _
    rw [List.getElem_reverse]
    simp only [Option.getD_some]
    congr 1
    omega
end Go.Proofs.YtbjlpdfhjapbkaaDoor.D
namespace Go.Proofs.YtbjlpdfhjapbkaaDoor
open Go.RowKit Go.Proofs.YtbjlpdfhjapbkaaDoorW.PrintWords Go.Proofs.YtbjlpdfhjapbkaaDoorW.PrintLast Go.Proofs.YtbjlpdfhjapbkaaDoorW.PrintMore Go.Proofs.YtbjlpdfhjapbkaaDoor.D Go.Proofs.YtbjlpdfhjapbkaaDoor.B
set_option linter.unusedVariables false

theorem R_own' {α : Type} {D : Kd α} {w : World} {base n c e : Nat} {ok : Nat → Prop} {A : Option Addr} {xs : List α} (h : Kd.R D e w base ok (.slice A n c) xs) (hp : 0 < xs.length) : ∃ g, A = some ⟨g, 0, none⟩ ∧ base ≤ g := by
  obtain ⟨h0, inner, ho, hr⟩ := h
  obtain ⟨h1, h2⟩ := ho
  rcases h2 with ⟨_, h4⟩ | ⟨g, cap, cur, hv, hb, _⟩
  · omega
  · injection hv with a b
    exact ⟨g, a, hb⟩
/-- A row of rows: where row i lies. -/
theorem row_at {w : World} {g n : Nat} {ks : List (List Int)} (h : Kd.C (Kd.slice 5 (Kd.int .u8)) w (some ⟨g, 0, none⟩) n ks) (i : Nat) (hi : i < n) :
    ∃ A c, w.cell? ⟨g, i, none⟩ = some (.slice A (ks.getD i []).length c) ∧ (ks.getD i []).length ≤ c ∧ Kd.C (Kd.int .u8) w A (ks.getD i []).length (ks.getD i []) := by
  obtain ⟨h1, h2, h3⟩ := h
  obtain ⟨ad, e, hc⟩ := h3 (by omega)
  cases e
  obtain ⟨cs, hl, ⟨A, c, hcs, hle, hC⟩, hcell⟩ := hc i (ks.getD i []) (by rw [List.getElem?_eq_getElem (by omega), List.getD_eq_getElem?_getD, List.getElem?_eq_getElem (by omega)]; rfl)
  subst hcs
  have := hcell 0 _ rfl
  have hs : (Kd.slice 5 (Kd.int .u8)).sz = 1 := rfl
  rw [hs, Addr.add_mid] at this
  exact ⟨A, c, by simpa using this, hle, hC⟩
theorem round32 (A0 : Option Addr) (c0 : Nat) (l0 : List Int) (A1 : Option Addr) (c1 : Nat) (l1 : List Int) (w : World) (hr0 : Kd.C (Kd.int .u8) w A0 32 l0) (hc0 : 32 ≤ c0) (hr1 : Kd.C (Kd.int .u8) w A1 48 l1) (hc1 : 48 ≤ c1)
    (h0 : l0.length = 32) (hb0 : Bits l0) (h1 : l1.length = 48) (hb1 : Bits l1) :
    Calls Tryd.prog 46 #[.slice A0 32 c0, .slice A1 48 c1] w fun e w' => ∃ g c : Nat, e = .returned (.slice (some ⟨g, 0, none⟩) 32 c) ∧ 32 ≤ c ∧ Kd.C (Kd.int .u8) w' (some ⟨g, 0, none⟩) 32 (roundB l0 l1) ∧ Below w.heap.size w w' := by
  have := spec_l1Round.calls0 A0 c0 l0 A1 c1 l1 w (by rw [h0]; exact hr0) (by omega) (by rw [h1]; exact hr1) (by omega) h0 hb0 h1 hb1
  rw [h0, h1] at this
  refine this.mono ?_
  rintro e w' ⟨v, rfl, hR, hb⟩
  obtain ⟨A, c, ee⟩ := Kd.R_slice hR
  subst ee
  obtain ⟨g, eg, _⟩ := R_own' hR (by rw [roundB_length]; decide)
  subst eg
  have hr := (Kd.R_reads' hR).2
  rw [roundB_length] at hr ⊢
  exact ⟨g, c, rfl, hr.1, hr.2, hb⟩
theorem xor32 (A0 : Option Addr) (c0 : Nat) (l0 : List Int) (A1 : Option Addr) (c1 : Nat) (l1 : List Int) (w : World) (hr0 : Kd.C (Kd.int .u8) w A0 32 l0) (hc0 : 32 ≤ c0) (hr1 : Kd.C (Kd.int .u8) w A1 32 l1) (hc1 : 32 ≤ c1)
    (h0 : l0.length = 32) (hb0 : Bits l0) (h1 : l1.length = 32) (hb1 : Bits l1) :
    Calls Tryd.prog 45 #[.slice A0 32 c0, .slice A1 32 c1] w fun e w' => ∃ g c : Nat, e = .returned (.slice (some ⟨g, 0, none⟩) 32 c) ∧ 32 ≤ c ∧ Kd.C (Kd.int .u8) w' (some ⟨g, 0, none⟩) 32 (xorB l0 l1) ∧ Below w.heap.size w w' := by
  have hx := spec_xor_eq l0 l1 (by omega) (by omega) 100 (by omega)
  rw [xorL_bits hb0 hb1] at hx
  have := spec_l1Xor.calls 100 A0 c0 l0 A1 c1 l1 _ w (by rw [h0]; exact hr0) (by omega) (by rw [h1]; exact hr1) (by omega) hx
  rw [h0, h1] at this
  have hl : (xorB l0 l1).length = 32 := by rw [xorB_length _ _ (by omega), h0]
  refine this.mono ?_
  rintro e w' ⟨v, rfl, hR, hb⟩
  obtain ⟨A, c, ee⟩ := Kd.R_slice hR
  subst ee
  obtain ⟨g, eg, _⟩ := R_own' hR (by omega)
  subst eg
  have hr := (Kd.R_reads' hR).2
  rw [hl] at hr ⊢
  exact ⟨g, c, rfl, hr.1, hr.2, hb⟩

theorem bits_call (A0 : Option Addr) (c0 : Nat) (l0 : List Int) (h0 : l0.length = 8) (hc0 : 8 ≤ c0) (hx : spec_l1Bits.f 100 l0 = some (bitsOf l0)) (w : World) (hr0 : Kd.C (Kd.int .u8) w A0 8 l0) :
    Calls Tryd.prog 43 #[.slice A0 8 c0] w fun e w' => ∃ v0_ : Value, e = .returned (v0_) ∧ Kd.R (Kd.int .u8) 5 w' w.heap.size (fun _ => True) v0_ (bitsOf l0) ∧ Below w.heap.size w w' := by
  have := spec_l1Bits.calls 100 A0 c0 l0 _ w (by rw [h0]; exact hr0) (by omega) hx
  rwa [h0] at this
theorem bytes32 (g o cc : Nat) (ci : List Int) (hl : ci.length = 32) (w : World) (h : Kd.C (Kd.int .u8) w (some ⟨g, o, none⟩) 32 ci) (hcc : 32 ≤ cc) :
    Calls Tryd.prog 47 #[.slice (some ⟨g, o, none⟩) 32 cc] w fun e w' => ∃ v0_ : Value, e = .returned (v0_) ∧ Kd.R (Kd.int .u8) 5 w' w.heap.size (fun _ => True) v0_ ci ∧ Below w.heap.size w w' := by
  have := spec_l1Bytes.calls (some ⟨g, o, none⟩) cc ci ci w (by rw [hl]; exact h) (by omega) (by unfold spec_l1Bytes.f; rw [if_pos (by omega)])
  rwa [hl] at this
theorem C_set {w : World} {k : IntKind} {ad p : Addr} {n : Nat} {xs : List Int} (h : Kd.C (Kd.int k) w (some ad) n xs) (hne : p.block ≠ ad.block) (v : Value) : Kd.C (Kd.int k) (w.setCell p v) (some ad) n xs := by
  obtain ⟨h1, h2, h3⟩ := h
  refine ⟨h1, h2, fun hn => ?_⟩
  obtain ⟨ad', e, hc⟩ := h3 hn
  cases e
  refine ⟨ad, rfl, fun j q hq => ?_⟩
  obtain ⟨c, hl, hk, hcell⟩ := hc j q hq
  refine ⟨c, hl, hk, fun i u hu => ?_⟩
  have : (ad.add (j * (Kd.int k).sz + i)).block = ad.block := by unfold Addr.add; split <;> rfl
  rw [World.cell?_setCell_far _ _ _ _ (by rw [this]; exact hne)]
  exact hcell i u hu
theorem int_cell {w : World} {g n : Nat} {l : List Int} (h : Kd.C (Kd.int .i64) w (some ⟨g, 0, none⟩) n l) (j : Nat) (hj : j < n) : w.cell? ⟨g, j, none⟩ = some (.int .i64 (nth l j)) := by
  obtain ⟨h1, h2, h3⟩ := h
  subst h1
  obtain ⟨ad, e, hc⟩ := C_cells (show Kd.C (Kd.int .i64) w (some ⟨g, 0, none⟩) l.length l from ⟨rfl, h2, h3⟩) (by omega)
  cases e
  have := hc j (.int .i64 (nth l j)) (by simp [nums, hj, nth_at _ _ hj])
  rwa [Addr.add_mid, Nat.zero_add] at this
theorem unbits_call (g cc : Nat) (l0 : List Int) (h0 : l0.length = 64) (hc0 : 64 ≤ cc) (hx : spec_l1Unbits.f 100 l0 = some (unbits l0)) (w : World) (hr0 : Kd.C (Kd.int .u8) w (some ⟨g, 0, none⟩) 64 l0) :
    Calls Tryd.prog 48 #[.slice (some ⟨g, 0, none⟩) 64 cc] w fun e w' => ∃ v0_ : Value, e = .returned (v0_) ∧ Kd.R (Kd.int .u8) 5 w' w.heap.size (fun _ => True) v0_ (unbits l0) ∧ Below w.heap.size w w' := by
  have := spec_l1Unbits.calls 100 (some ⟨g, 0, none⟩) cc l0 _ w (by rw [h0]; exact hr0) (by omega) hx
  rwa [h0] at this
set_option maxHeartbeats 1000000 in
theorem spec_Des.calls0 (A0 : Option Addr) (c0 : Nat) (n0 : Nat) (A1 : Option Addr) (c1 : Nat) (n1 : Nat) (dec : Bool) (w : World) (h : ¬ (n0 = 8 ∧ n1 = 8)) :
    Calls Tryd.prog 18 #[.slice A0 n0 c0, .slice A1 n1 c1, .bool dec] w fun e w' => ∃ v0_ : Value, e = .returned (v0_) ∧ Kd.R (Kd.int .u8) 5 w' w.heap.size (fun _ => True) v0_ [] ∧ Below w.heap.size w w' := by
  by_cases h0 : n0 = 8
  · have b0 : ((n0 : Int) != 8) = false := by rw [bne_eq_false_iff_eq]; omega
    have b1 : ((n1 : Int) != 8) = true := by rw [bne_iff_ne]; omega
    clear h
    go_enter Tryd.func18, Tryd.ntmps18
    go_wp2_with fail
    go_ret
    exact ⟨_, rfl, Kd.R_nil _ _ _ _ _, Below.refl _ _⟩
  · have b0 : ((n0 : Int) != 8) = true := by rw [bne_iff_ne]; omega
    clear h
    go_enter Tryd.func18, Tryd.ntmps18
    go_wp2_with fail
    go_ret
    exact ⟨_, rfl, Kd.R_nil _ _ _ _ _, Below.refl _ _⟩

set_option maxHeartbeats 4000000 in
theorem spec_Des.calls8 (A0 : Option Addr) (c0 : Nat) (l0 : List Int) (A1 : Option Addr) (c1 : Nat) (l1 : List Int) (dec : Bool) (w : World) (hr0 : Kd.C (Kd.int .u8) w A0 8 l0) (hc0 : 8 ≤ c0) (hr1 : Kd.C (Kd.int .u8) w A1 8 l1) (hc1 : 8 ≤ c1)
    (h0 : l0.length = 8) (hb0 : Bytes l0) (h1 : l1.length = 8) (hb1 : Bytes l1) :
    Calls Tryd.prog 18 #[.slice A0 8 c0, .slice A1 8 c1, .bool dec] w fun e w' => ∃ v0_ : Value, e = .returned (v0_) ∧ Kd.R (Kd.int .u8) 5 w' w.heap.size (fun _ => True) v0_ (desL l0 l1 dec) ∧ Below w.heap.size w w' := by
  have HR1 := Aside0.mk hr1
  have hk := spec_l1Keys.calls0 A0 c0 l0 w (by rw [h0]; exact hr0) (by omega) h0 hb0
  rw [h0] at hk
  have KK := Aside0.mk hk
  have hbits := Aside0.mk (spec_bits_eq l1 (by omega) hb1 100 (by omega))
  have hl64 : (bitsOf l1).length = 64 := by rw [bitsOf_length, h1]
  have hp1 := Aside0.mk (spec_pick_eq (bitsOf l1) tIP (by omega) (by decide) (by rw [hl64]; exact within_ip) 100 (by decide))
  obtain ⟨vb, hvb⟩ : ∃ vb, vb = pickB (bitsOf l1) tIP := ⟨_, rfl⟩
  have hvbb : Bits vb := hvb ▸ pickB_bits (bitsOf_bits _) _
  have hvbl : vb.length = 64 := by rw [hvb, pickB_length]; rfl
  obtain ⟨ks, hks⟩ : ∃ ks, ks = keysB l0 := ⟨_, rfl⟩
  have HKG : Aside0 ((∀ k ∈ ks, Bits k ∧ k.length = 48) ∧ ks.length = 16) := ⟨hks ▸ keysB_good l0, hks ▸ keysB_length l0⟩
  obtain ⟨L, hL⟩ : ∃ l, l = vb.take 32 := ⟨_, rfl⟩
  obtain ⟨Rr, hRr⟩ : ∃ l, l = vb.drop 32 := ⟨_, rfl⟩
  have HP0 : Aside0 (L.length = 32 ∧ Rr.length = 32 ∧ Bits L ∧ Bits Rr) := ⟨by rw [hL, hRr]; exact ⟨by rw [List.length_take]; omega, by rw [List.length_drop]; omega, hvbb.take _, hvbb.drop _⟩⟩
  have HTK : Aside0 ((vb.drop 0).take 32 = L ∧ (vb.drop 32).take 32 = Rr) := ⟨by rw [hL]; rfl, by rw [hRr]; exact List.take_of_length_le (by rw [List.length_drop]; omega)⟩
  have HE0 : Aside0 (desL l0 l1 dec = unbits (pickB ((feist (dirB dec ks) (L, Rr)).2 ++ (feist (dirB dec ks) (L, Rr)).1) tINV)) := ⟨by rw [hL, hRr, hvb, hks]; rfl⟩
  rw [HE0.out]
  rw [← hks] at KK
  rw [← hvb] at hp1
  have HVL := Aside0.mk hvbl
  have HL1 := Aside0.mk h1
  have HL64 := Aside0.mk hl64
  clear hr0 hr1 hc0 h0 hb0 hb1 hl64 hvb hvbb hvbl hks hL hRr hk h1 HE0
  obtain ⟨dks, hdks⟩ : ∃ dks, dks = dirB dec ks := ⟨_, rfl⟩
  rw [← hdks]
  have HDK := Aside0.mk hdks
  clear hdks
  have HKB := Aside0.mk (fun (w1 : World) (h : Kd.C (Kd.int .u8) w1 A1 8 l1) => bits_call A1 c1 l1 HL1.out hc1 hbits.out w1 h)
  clear hc1
  go_enter Tryd.func18, Tryd.ntmps18
  go_wp2_with (first | (go_at_call 41; go_must (refine KK.out.mono ?_; rintro e w1 ⟨v1, rfl, hR, hb⟩; obtain ⟨Ak, ck, ek⟩ := Kd.R_slice hR; rw [HKG.out.2] at ek; subst ek; obtain ⟨gk, egk, _⟩ := R_own' hR (by rw [HKG.out.2]; decide); subst egk; have HK := Aside0.mk (Kd.R_reads' hR).2.2; rw [HKG.out.2] at HK; have B1 := Aside0.mk hb; clear hR hb)) | (go_at_call 43; go_must (refine (HKB.out _ (Kd.C_below HR1.out B1.out)).mono ?_; rintro e w2 ⟨v2, rfl, hR, hb⟩; obtain ⟨Ab, cb, eb⟩ := Kd.R_slice hR; subst eb; have HB := Aside0.mk (Kd.R_reads' hR).2; have B2 := Aside0.mk hb; clear hR hb)) | (go_at_call 44; go_must (refine (spec_l1IP.calls 100 tIP _ spec_ip_eq).mono ?_; rintro e w3 ⟨v3, rfl, hR, hb⟩; obtain ⟨At, ct, et⟩ := Kd.R_slice hR; subst et; have HT := Aside0.mk (Kd.R_reads' hR).2; have B3 := Aside0.mk hb; clear hR hb)) | (go_at_call 42; go_must (refine (spec_l1Pick.calls 100 _ _ (bitsOf l1) _ _ tIP _ _ (Kd.C_below HB.out.2 B3.out) HB.out.1 HT.out.2 HT.out.1 hp1.out).mono ?_; rintro e w4 ⟨v4, rfl, hR, hb⟩; obtain ⟨Ax, cx, ex⟩ := Kd.R_slice hR; rw [HVL.out] at ex; subst ex; obtain ⟨gx, egx, _⟩ := R_own' hR (by rw [HVL.out]; decide); subst egx; have HX := Aside0.mk (Kd.R_reads' hR).2; rw [HVL.out] at HX; have hcx := HX.out.1; have B4 := Aside0.mk hb; clear hR hb)))
  have HK4 := Aside0.mk (Kd.C_below HK.out (below_step B2.out (below_step B3.out B4.out)))
  have HW4 := Aside0.mk (below_step B1.out (below_step B2.out (below_step B3.out B4.out)))
  have hL0 := C_at HX.out.2 0 32 (by omega)
  have hR0 := C_at HX.out.2 32 32 (by omega)
  rw [HTK.out.1] at hL0
  rw [HTK.out.2, Nat.zero_add] at hR0
  have HL0 := Aside0.mk hL0
  have HR0 := Aside0.mk hR0
  clear hL0 hR0
  go_loopw [9, 10, 11, 12, 13, 38] (fun v9 v10 v11 v12 v13 v38 wr => ∃ (i gl ol cl gr or_ cr : Nat), i ≤ 16 ∧ v38 = .int .i64 i ∧ v9 = .slice (some ⟨gl, ol, none⟩) 32 cl ∧ v10 = .slice (some ⟨gr, or_, none⟩) 32 cr ∧ 32 ≤ cl ∧ 32 ≤ cr ∧
      Aside0 (Kd.C (Kd.int .u8) wr (some ⟨gl, ol, none⟩) 32 (feist (dks.take i) (L, Rr)).1) ∧ Aside0 (Kd.C (Kd.int .u8) wr (some ⟨gr, or_, none⟩) 32 (feist (dks.take i) (L, Rr)).2) ∧ Aside0 (Below w4.heap.size w4 wr))
    (fun _ _ _ _ _ v38 _ => 16 - (intOf v38).toNat)
  case atStart => exact ⟨0, gx, 0, cx, gx, 32, cx - 32, by omega, rfl, rfl, rfl, by omega, by omega, HL0, HR0, ⟨Below.refl _ _⟩⟩
  case round =>
    obtain ⟨i, gl, ol, cl, gr, or_, cr, hi, rfl, rfl, rfl, hcl, hcr, G1, G2, G3⟩ := hrel
    by_cases hlt : i < 16
    · obtain ⟨kk, t1, t2, t3, t4⟩ := dir_list dec ks HKG.out.2 HKG.out.1 i hlt
      rw [← HDK.out] at t1
      obtain ⟨g1, g2, g3, g4⟩ := feist_good (dks.take i) (L, Rr) HP0.out.1 HP0.out.2.1 HP0.out.2.2.1 HP0.out.2.2.2
      have hf : feist (dks.take (i + 1)) (L, Rr) = ((feist (dks.take i) (L, Rr)).2, xorB (feist (dks.take i) (L, Rr)).1 (roundB (feist (dks.take i) (L, Rr)).2 kk)) := by rw [t1, feist_append]; rfl
      have HF := Aside0.mk hf
      clear hf t1
      obtain ⟨pl, hpl⟩ : ∃ pl, pl = (feist (dks.take i) (L, Rr)).1 := ⟨_, rfl⟩
      obtain ⟨pr, hpr⟩ : ∃ pr, pr = (feist (dks.take i) (L, Rr)).2 := ⟨_, rfl⟩
      rw [← hpl] at g1 g3 HF G1
      rw [← hpr] at g2 g4 HF G2
      clear hpl hpr
      have HG := Aside0.mk (And.intro g1 (And.intro g2 (And.intro g3 (And.intro g4 (And.intro t2 t3)))))
      have hkr := Kd.C_below HK4.out G3.out
      obtain ⟨Ak1, ck1, hk1, hkc1, hkC1⟩ := row_at hkr i hlt
      obtain ⟨Ak2, ck2, hk2, hkc2, hkC2⟩ := row_at hkr (15 - i) (by omega)
      have e15 : (15 - (i : Int)).toNat = 15 - i := by omega
      clear g1 g2 g3 g4 t2 t3 hkr
      cases dec
      · simp only [Bool.false_eq_true, if_false] at t4
        rw [← t4] at hk1 hkc1 hkC1
        have hkl := HG.out.2.2.2.2.2
        rw [hkl] at hk1 hkc1 hkC1
        have HKC := Aside0.mk hkC1
        clear t4 hkC1 hkC2 hkc2 hkl
        go_wp2_with (first | (go_at_call 46; go_must (refine (round32 _ cr pr _ ck1 kk _ G2.out hcr HKC.out hkc1 HG.out.2.1 HG.out.2.2.2.1 HG.out.2.2.2.2.2 HG.out.2.2.2.2.1).mono ?_; rintro e w5 ⟨g5, c5, rfl, hc5, hC5, hb5⟩; have HC5 := Aside0.mk hC5; have HB5 := Aside0.mk hb5; clear hC5 hb5)) | (go_at_call 45; go_must (refine (xor32 _ cl pl _ c5 _ _ (Kd.C_below G1.out HB5.out) hcl HC5.out hc5 HG.out.1 HG.out.2.2.1 (roundB_length _ _) (roundB_bits _ _)).mono ?_; rintro e w6 ⟨g6, c6, rfl, hc6, hC6, hb6⟩; have HC6 := Aside0.mk hC6; have HB6 := Aside0.mk hb6; clear hC6 hb6)))
        go_roundw
        case rel => exact ⟨i + 1, gr, or_, cr, g6, 0, c6, by omega, by go_num, rfl, rfl, hcr, hc6, ⟨by rw [HF.out]; exact Kd.C_below G2.out (below_step HB5.out HB6.out)⟩, ⟨by rw [HF.out]; exact HC6.out⟩, ⟨below_step G3.out (below_step HB5.out HB6.out)⟩⟩
        case measure => simp [intOf]; omega
      · simp only [if_true] at t4
        rw [← t4] at hk2 hkc2 hkC2
        have hkl := HG.out.2.2.2.2.2
        rw [hkl] at hk2 hkc2 hkC2
        have HKC := Aside0.mk hkC2
        clear t4 hkC1 hkC2 hkc1 hkl
        go_wp2_with (first | (go_at_call 46; go_must (refine (round32 _ cr pr _ ck2 kk _ G2.out hcr HKC.out hkc2 HG.out.2.1 HG.out.2.2.2.1 HG.out.2.2.2.2.2 HG.out.2.2.2.2.1).mono ?_; rintro e w5 ⟨g5, c5, rfl, hc5, hC5, hb5⟩; have HC5 := Aside0.mk hC5; have HB5 := Aside0.mk hb5; clear hC5 hb5)) | (go_at_call 45; go_must (refine (xor32 _ cl pl _ c5 _ _ (Kd.C_below G1.out HB5.out) hcl HC5.out hc5 HG.out.1 HG.out.2.2.1 (roundB_length _ _) (roundB_bits _ _)).mono ?_; rintro e w6 ⟨g6, c6, rfl, hc6, hC6, hb6⟩; have HC6 := Aside0.mk hC6; have HB6 := Aside0.mk hb6; clear hC6 hb6)))
        go_roundw
        case rel => exact ⟨i + 1, gr, or_, cr, g6, 0, c6, by omega, by go_num, rfl, rfl, hcr, hc6, ⟨by rw [HF.out]; exact Kd.C_below G2.out (below_step HB5.out HB6.out)⟩, ⟨by rw [HF.out]; exact HC6.out⟩, ⟨below_step G3.out (below_step HB5.out HB6.out)⟩⟩
        case measure => simp [intOf]; omega
    · obtain rfl : i = 16 := by omega
      have hdl : dks.length = 16 := by rw [HDK.out]; unfold dirB; split <;> simp [HKG.out.2]
      rw [List.take_of_length_le (by omega)] at G1 G2
      obtain ⟨g1, g2, g3, g4⟩ := feist_good dks (L, Rr) HP0.out.1 HP0.out.2.1 HP0.out.2.2.1 HP0.out.2.2.2
      obtain ⟨pl, hpl⟩ : ∃ pl, pl = (feist dks (L, Rr)).1 := ⟨_, rfl⟩
      obtain ⟨pr, hpr⟩ : ∃ pr, pr = (feist dks (L, Rr)).2 := ⟨_, rfl⟩
      have HPE : Aside0 ((feist dks (L, Rr)).2 ++ (feist dks (L, Rr)).1 = pr ++ pl) := ⟨by rw [hpl, hpr]⟩
      rw [← hpl] at g1 g3 G1
      rw [← hpr] at g2 g4 G2
      have hbl : (pr ++ pl).length = 64 := by rw [List.length_append]; omega
      have HG := Aside0.mk (And.intro g1 (And.intro g2 (And.intro (g4.append g3) hbl)))
      have KB := Aside0.mk (fun (w1 : World) (h : Kd.C (Kd.int .u8) w1 (some ⟨gr, or_, none⟩) 32 pr) => bytes32 gr or_ cr pr g2 w1 h hcr)
      have HPU := Aside0.mk (spec_unbits_eq (pickB (pr ++ pl) tINV) 8 (by rw [pickB_length]; rfl) (by rw [pickB_length]; decide) (pickB_bits (g4.append g3) _) 100 (by rw [pickB_length]; decide))
      clear hdl hpl hpr g1 g2 g3 g4 hbl
      have hmk : ∀ W : World, (Instr.makeSlice 22 (.int .i64 64) (.int .i64 64)).run Tryd.prog W = .ok (.slice (some ⟨W.heap.size, 0, none⟩) 64 64) (W.alloc (.cells (nums .u8 (outAt (pr ++ pl) 0)).toArray 5)) := fun W => by
        rw [outAt_zero, ← made_nums]
        exact print_make 22 5 .u8 1 Tryd.underlying22 info5 (by decide) 64 (by decide) W
      obtain ⟨o0, ho0⟩ : ∃ l, l = outAt (pr ++ pl) 0 := ⟨_, rfl⟩
      rw [← ho0] at hmk
      have HO0 := Aside0.mk ho0
      clear ho0
      have hBo := blk_new wr (.cells (nums .u8 o0).toArray 5)
      have HBO : Aside0 (Blk (wr.alloc (.cells (nums .u8 o0).toArray 5)) wr.heap.size .u8 5 o0) := ⟨hBo⟩
      clear hBo
      go_wp2_with (first | (go_at_call 47; go_must (refine (KB.out _ (Kd.C_alloc G2.out _)).mono ?_; rintro e w5 ⟨v5, rfl, hR, hb⟩; obtain ⟨Aq, cq, eq⟩ := Kd.R_slice hR; rw [HG.out.2.1] at eq; subst eq; have HQ := Aside0.mk hR; have HB5 := Aside0.mk hb; clear hR hb)) | ((with_reducible refine gate_builtin (b := .append) (xs := #[.tmp 61, .tmp 62]) rfl ?_); at_builtin; go_must (refine Kd.R_append_rows (Kd.int .u8) (w0 := wr.alloc (.cells (nums .u8 o0).toArray 5)) (wr.alloc (.cells (nums .u8 o0).toArray 5)).heap.size rfl (.tmp 61) (.tmp 62) 22 5 (.int .u8 0) 1 rfl Tryd.underlying22 info5 rfl (by decide) (by omega) (.slice Aq 32 cq) pr pl _ _ _ (fun _ => True) (fun _ => False) rfl rfl ?aO ?aR (fun _ _ h => h) (fun _ h => h.elim) ?aF ?aB ?aS ?aL ?_; (case aO => exact HQ.out); (case aR => exact Kd.C_below (Kd.C_alloc G1.out _) HB5.out); (case aF => intro k hk; trivial); (case aB => exact HB5.out); (case aS => exact HB5.out.size); (case aL => rw [HG.out.2.1]; omega); intro v6 w6 ho hb hg hat; obtain ⟨Aa, ca, ea⟩ := Kd.R_slice ho; rw [HG.out.2.2.2] at ea; subst ea; obtain ⟨ga, ega, hga⟩ := R_own' ho (by rw [HG.out.2.2.2]; decide); subst ega; have HA6 := Aside0.mk (Kd.R_reads' ho).2; rw [HG.out.2.2.2] at HA6; have HB6 := Aside0.mk hb; have HGA := Aside0.mk hga; clear ho hb hg hat hga)) | (go_at_call 44; go_must (refine (spec_l1IP.calls 100 tIP _ spec_ip_eq).mono ?_; rintro e w7 ⟨v7, rfl, hR, hb⟩; obtain ⟨At7, ct7, et⟩ := Kd.R_slice hR; subst et; obtain ⟨gt, egt, hgt⟩ := R_own' hR (by decide); subst egt; have HT7 := Aside0.mk (Kd.R_reads' hR).2.2; have HGT := Aside0.mk hgt; have HB7 := Aside0.mk hb; clear hR hb hgt)))
      have X67 := below_step HB6.out HB7.out
      have hBo7 := Aside0.mk (HBO.out.below X67)
      have hA7 := Aside0.mk (Kd.C_below HA6.out.2 HB7.out)
      have hca := HA6.out.1
      have hgo := HBO.out.lt
      have hgab := HGA.out
      have hgtb := HGT.out
      have hsz6 := HB6.out.size
      obtain ⟨go_, hgo_⟩ : ∃ g, g = wr.heap.size := ⟨_, rfl⟩
      have hwb : Aside0 (Below w.heap.size w w7) := ⟨below_step HW4.out (below_step G3.out (below_step (below_alloc (Below.refl _ _) _) X67))⟩
      have hbase : w.heap.size ≤ go_ := by rw [hgo_]; exact (below_step HW4.out G3.out).size
      rw [← hgo_] at hBo7 hgo ⊢
      have hne1 : go_ ≠ ga := by omega
      have hne2 : go_ ≠ gt := by omega
      clear hgo_ hgab hgtb hsz6 hgo HBO hmk X67
      rw [HO0.out] at hBo7
      obtain ⟨both, hboth⟩ : ∃ b, b = pr ++ pl := ⟨_, rfl⟩
      have HBL : Aside0 (both.length = 64) := ⟨by rw [hboth]; exact HG.out.2.2.2⟩
      have HRES : Aside0 (unbits (pickB both tINV) = unbits (pickB ((feist dks (L, Rr)).2 ++ (feist dks (L, Rr)).1) tINV)) := ⟨by rw [HPE.out, hboth]⟩
      rw [← hboth] at hBo7 hA7 HPU
      clear hboth
      go_loopw [16, 17, 66] (fun v16 v17 v66 wi => ∃ j : Nat, j ≤ 64 ∧ v66 = .int .i64 j ∧ Aside0 (Blk wi go_ .u8 5 (outAt both j)) ∧ Aside0 (Kd.C (Kd.int .u8) wi (some ⟨ga, 0, none⟩) 64 both) ∧ Aside0 (Kd.C (Kd.int .i64) wi (some ⟨gt, 0, none⟩) 64 tIP) ∧ Aside0 (Below w.heap.size w wi))
        (fun _ _ v66 _ => 64 - (intOf v66).toNat)
      case atStart => exact ⟨0, by omega, rfl, hBo7, hA7, HT7, hwb⟩
      case round =>
        obtain ⟨j, hj, rfl, J1, J2, J3, J4⟩ := hrel
        by_cases hlj : j < 64
        · have hn := within_ip j hlj
          obtain ⟨m, hm⟩ : ∃ m : Nat, nth tIP j = (m : Int) + 1 := ⟨(nth tIP j).toNat - 1, by omega⟩
          have hm64 : m < 64 := by omega
          have hmn : (nth tIP j).toNat - 1 = m := by omega
          have c1 := int_cell J3.out j hlj
          rw [hm] at c1
          have c2 := own_cell (l := both) (by rw [HBL.out]; exact J2.out) j (by rw [HBL.out]; exact hlj)
          have c3 := J1.out.cell m (by rw [outAt_length]; exact hm64)
          have c4 := J1.out.free m
          have hst := outAt_step both j hlj
          rw [hmn] at hst
          have HST := Aside0.mk hst
          clear hst hn hm hmn
          go_wp2
          go_roundw
          case rel => exact ⟨j + 1, by omega, by go_num, ⟨by rw [← HST.out]; exact J1.out.set m _⟩, ⟨C_set J2.out (by simpa using hne1) _⟩, ⟨C_set J3.out (by simpa using hne2) _⟩, ⟨J4.out.setCell (p := ⟨go_, m, none⟩) hbase _⟩⟩
          case measure => simp [intOf]; omega
        · obtain rfl : j = 64 := by omega
          rw [outAt_all] at J1
          have hR := J1.out.R hbase (by rw [pickB_length]; rfl) (n := 64) (by omega)
          have KU := Aside0.mk (unbits_call go_ 64 (pickB both tINV) (by rw [pickB_length]; rfl) (by omega) HPU.out wr (by have := (Kd.R_reads' hR).2.2; rw [show (pickB both tINV).length = 64 by rw [pickB_length]; rfl] at this; exact this))
          clear hR
          go_wp2_with (go_at_call 48; go_must (refine KU.out.mono ?_; rintro e w9 ⟨v9, rfl, hR9, hb9⟩; have HR9 := Aside0.mk hR9; have HB9 := Aside0.mk hb9; clear hR9 hb9))
          go_ret
          rw [← HRES.out]
          exact ⟨_, rfl, Kd.R_lower HR9.out J4.out.size, below_step J4.out HB9.out⟩
end Go.Proofs.YtbjlpdfhjapbkaaDoor
