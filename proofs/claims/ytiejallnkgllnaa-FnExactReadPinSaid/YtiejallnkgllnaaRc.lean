/- Contracts of impl.must and impl.readClear: the PIN of a clear block, or the panic by which the decoder gives up. Condition: a block of 8 bytes, format 0 or 3. -/
import Derived.Test.YtiejallnkgllnaaMpP
import Derived.WalkLawsBesides
namespace Go.Proofs.Ytiejallnkgllnaa
open Go.RowKit Go.Proofs.YtiejallnkgllnaaW.PrintWords Go.Proofs.YtiejallnkgllnaaW.PrintLast Go.Proofs.YtiejallnkgllnaaW.PrintMore Go.Proofs.Ytiejallnkgllnaa.D
set_option linter.unusedVariables false
def badP : List PanicEntry := [{ v := .iface 78 (.agg #[]), recovered := false }]
set_option maxHeartbeats 1000000 in
theorem impl_must.ok (w : World) : Calls Try.prog 48 #[.bool true] w fun e w' => e = .returned (.tuple #[]) ∧ w' = w := by
  go_enter Try.func48, Try.ntmps48
  go_wp2
  go_end0
  exact ⟨rfl, rfl⟩
set_option maxHeartbeats 1000000 in
theorem impl_must.no (w : World) : Calls Try.prog 48 #[.bool false] w fun e w' => e = .panicked badP ∧ w' = w := by
  go_enter Try.func48, Try.ntmps48
  go_wp2
  exact ⟨rfl, rfl, rfl⟩
/-- The two digits of each byte. -/
def nibL (b : List Int) : List Int := b.flatMap fun x => [x / 16, x % 16]
theorem nibL_snoc (b : List Int) (x : Int) : nibL (b ++ [x]) = nibL b ++ [x / 16, x % 16] := by simp [nibL]
theorem nibL_nibs (b : List Int) (h : Bytes b) : Nibs (nibL b) := fun d hd => by
  obtain ⟨x, hx, hd⟩ := List.mem_flatMap.1 hd
  have := h x hx
  rcases List.mem_cons.1 hd with rfl | hd
  · omega
  · have := List.mem_singleton.1 hd
    omega
theorem nibL_length (b : List Int) : (nibL b).length = 2 * b.length := by
  induction b with
  | nil => rfl
  | cons x b ih =>
    have : nibL (x :: b) = x / 16 :: x % 16 :: nibL b := rfl
    rw [this, List.length_cons, List.length_cons, ih, List.length_cons]
    omega
def okAt (f n : Int) (i : Nat) (d : Int) : Bool := if (i : Int) < n then decide (d ≤ 9) else if f = 0 then decide (d = 15) else decide (10 ≤ d)
def rcOk (f : Int) (ds : List Int) : Bool := (decide (nth ds 0 = f) && (decide (4 ≤ nth ds 1) && decide (nth ds 1 ≤ 12))) && (List.range 14).all fun i => okAt f (nth ds 1) i (nth ds (2 + i))
/-- What readClear comes to. -/
def RCend (f : Int) (ds : List Int) (e : Ending) : Prop := if rcOk f ds = true then ∃ P : ByteArray, e = .returned (.string P) ∧ HexOf P ((ds.drop 2).take (nth ds 1).toNat) else e = .panicked badP
theorem rcOk_head {f : Int} {ds : List Int} (h : ¬ (nth ds 0 = f ∧ 4 ≤ nth ds 1 ∧ nth ds 1 ≤ 12)) : rcOk f ds = false := by
  cases hr : rcOk f ds with
  | false => rfl
  | true =>
    simp only [rcOk, Bool.and_eq_true, decide_eq_true_eq] at hr
    exact absurd ⟨hr.1.1, hr.1.2.1, hr.1.2.2⟩ h
theorem rcOk_at {f : Int} {ds : List Int} (i : Nat) (hi : i < 14) (h : okAt f (nth ds 1) i (nth ds (2 + i)) = false) : rcOk f ds = false := by
  cases hr : rcOk f ds with
  | false => rfl
  | true =>
    simp only [rcOk, Bool.and_eq_true] at hr
    have := List.all_eq_true.1 hr.2 i (List.mem_range.2 hi)
    rw [h] at this
    cases this
theorem rcOk_all {f : Int} {ds : List Int} (h0 : nth ds 0 = f) (h1 : 4 ≤ nth ds 1) (h2 : nth ds 1 ≤ 12) (h : ∀ i, i < 14 → okAt f (nth ds 1) i (nth ds (2 + i)) = true) : rcOk f ds = true := by
  simp only [rcOk, Bool.and_eq_true, decide_eq_true_eq]
  exact ⟨⟨h0, h1, h2⟩, List.all_eq_true.2 fun i hi => h i (List.mem_range.1 hi)⟩
theorem RC_no {f : Int} {ds : List Int} (h : rcOk f ds = false) : RCend f ds (.panicked badP) := by unfold RCend; rw [if_neg (by rw [h]; decide)]
theorem RC_yes {f : Int} {ds : List Int} (h : rcOk f ds = true) (P : ByteArray) (hp : HexOf P ((ds.drop 2).take (nth ds 1).toNat)) : RCend f ds (.returned (.string P)) := by unfold RCend; rw [if_pos h]; exact ⟨P, rfl, hp⟩
theorem HexOf.ext {s : ByteArray} {ds : List Int} (h : HexOf s ds) (a b : Nat) : HexOf (s.extract a b) ((ds.drop a).take (b - a)) := ⟨by rw [bI_extract, h.1, List.map_take, List.map_drop], (h.2.drop a).take _⟩
theorem pw_below_iter {B : Nat} {w W : World} (h : Below B w W) (s : ByteArray) (p : Nat) (hB : B ≤ W.heap.size) : Below B w (W.iter s p) := h.alloc hB _
theorem and15_u8 : ∀ n : Fin 256, Go.bits .and .u8 (n.val : Int) 15 = (n.val : Int) % 16 := by decide +kernel
theorem and15_of (x : Int) (h : 0 ≤ x ∧ x ≤ 255) : Go.bits .and .u8 x 15 = x % 16 := by
  have := and15_u8 ⟨x.toNat, by omega⟩
  simp only [Int.toNat_of_nonneg h.1] at this
  exact this

set_option maxHeartbeats 4000000 in
set_option maxRecDepth 100000 in
theorem impl_readClear.at (f : Int) (b : List Int) (w : World) (hf : f = 0 ∨ f = 3) (hl : b.length = 8) (hb : Bytes b) :
    Calls Try.prog 50 #[.int .i64 f, .agg (nums .u8 b).toArray] w fun e w' => RCend f (nibL b) e ∧ Below w.heap.size w w' := by
  obtain ⟨b0, b1, b2, b3, b4, b5, b6, b7, rfl⟩ := eight8 b hl
  have HBY := Aside0.mk hb
  have HIX : Aside0 (∀ (i : Nat), i < 8 → ∀ W, (Instr.index 84 (.agg #[.int .u8 b0, .int .u8 b1, .int .u8 b2, .int .u8 b3, .int .u8 b4, .int .u8 b5, .int .u8 b6, .int .u8 b7]) (.int .i64 (i : Int))).run Try.prog W = .ok (.int .u8 (nth [b0, b1, b2, b3, b4, b5, b6, b7] i)) W) := ⟨fun i hi W => run_index_nums Try.underlying84 Try.underlying5 size5 [b0, b1, b2, b3, b4, b5, b6, b7] i rfl hi W⟩
  clear hb hl
  show Calls _ _ #[.int .i64 f, .agg #[.int .u8 b0, .int .u8 b1, .int .u8 b2, .int .u8 b3, .int .u8 b4, .int .u8 b5, .int .u8 b6, .int .u8 b7]] _ _
  obtain ⟨B, hB⟩ : ∃ B, B = [b0, b1, b2, b3, b4, b5, b6, b7] := ⟨_, rfl⟩
  have hBl : B.length = 8 := by rw [hB]; rfl
  rw [← hB] at HIX HBY ⊢
  have HBL := Aside0.mk hBl
  clear hB hBl
  go_enter Try.func50, Try.ntmps50
  go_wp2_with fail
  have HB0 : Aside0 (Below w.heap.size w (w.alloc (.cells #[.int .u8 b0, .int .u8 b1, .int .u8 b2, .int .u8 b3, .int .u8 b4, .int .u8 b5, .int .u8 b6, .int .u8 b7] 84))) := ⟨(Below.refl _ _).alloc (Nat.le_refl _) _⟩
  generalize w.alloc (.cells #[.int .u8 b0, .int .u8 b1, .int .u8 b2, .int .u8 b3, .int .u8 b4, .int .u8 b5, .int .u8 b6, .int .u8 b7] 84) = W at HB0 ⊢
  go_loopw [5, 7, 12] (fun v5 v7 v12 wr => ∃ (S : ByteArray) (k : Nat), k ≤ 8 ∧ v12 = .int .i64 k ∧ v5 = .string S ∧ S.size = 2 * k ∧ Aside0 (HexOf S (nibL (B.take k))) ∧ Aside0 (Below w.heap.size w wr))
    (fun _ _ v12 _ => 8 - (intOf v12).toNat)
  case atStart => exact ⟨⟨#[]⟩, 0, by omega, rfl, rfl, rfl, ⟨rfl, fun d hd => by simp [nibL] at hd⟩, HB0⟩
  case round =>
    clear HB0
    obtain ⟨S, k, hk, rfl, rfl, hsz, HS, HB⟩ := hrel
    by_cases hlt : k < 8
    · have hix := HIX.out k hlt
      have HT1 := Aside0.mk (take_nth B k (by rw [HBL.out]; exact hlt))
      obtain ⟨x0, x1⟩ := HBY.out.nth k
      obtain ⟨x, hx⟩ : ∃ x, x = nth B k := ⟨_, rfl⟩
      rw [← hx] at hix x0 x1 HT1
      clear hx
      have h15 := and15_of x ⟨x0, x1⟩
      obtain ⟨p, hp, hp16⟩ : ∃ p : Nat, x / 16 = (p : Int) ∧ p < 16 := ⟨(x / 16).toNat, by omega, by omega⟩
      obtain ⟨q, hq, hq16⟩ : ∃ q : Nat, x % 16 = (q : Int) ∧ q < 16 := ⟨(x % 16).toNat, by omega, by omega⟩
      rw [hq] at h15
      have hp1 : ((p : Int) + 1) % 256 = (p : Int) + 1 := by omega
      have hq1 : ((q : Int) + 1) % 256 = (q : Int) + 1 := by omega
      go_wp2_with fail
      go_quiet (fail)
      go_wp2_with fail
      have hs1 := (hex_one p hp16).size
      have hs2 := (hex_one q hq16).size
      have HX := Aside0.mk ((hex_one p hp16).app (hex_one q hq16))
      rw [← hp, ← hq] at HX
      go_roundw
      case rel => exact ⟨_, k + 1, by omega, by go_num, rfl, by
        unfold HEX at hs1 hs2
        rw [ByteArray.size_append, ByteArray.size_append, hs1, hs2]
        simp only [List.length_cons, List.length_nil]
        omega, ⟨by rw [HT1.out, nibL_snoc]; exact HS.out.app HX.out⟩, ⟨pw_below_drewN HB.out _⟩⟩
      case measure => simp [intOf]; omega
    · obtain rfl : k = 8 := by omega
      rw [List.take_of_length_le (by rw [HBL.out]; exact Nat.le_refl _)] at HS
      have hDl : (nibL B).length = 16 := by rw [nibL_length, HBL.out]
      obtain ⟨D, hD⟩ : ∃ D, D = nibL B := ⟨_, rfl⟩
      rw [← hD] at HS hDl
      have h0c := HS.out.at 0 (by omega)
      have h1c := HS.out.at 1 (by omega)
      obtain ⟨e00, e01⟩ := HS.out.2.at 0 (by omega)
      obtain ⟨e10, e11⟩ := HS.out.2.at 1 (by omega)
      have HD := Aside0.mk hD
      obtain ⟨d0, hd0⟩ : ∃ d, d = nth D 0 := ⟨_, rfl⟩
      obtain ⟨d1, hd1⟩ : ∃ d, d = nth D 1 := ⟨_, rfl⟩
      rw [← hd0] at h0c e00 e01
      rw [← hd1] at h1c e10 e11
      have H0 := Aside0.mk hd0
      have H1 := Aside0.mk hd1
      have HDL := Aside0.mk hDl
      clear hd0 hd1 hD hDl hlt hk
      go_wp2_with fail
      with_reducible refine (impl_digit.at d1 _ e10 e11).mono ?_
      rintro e w1 ⟨rfl, rfl⟩
      have hw1 : IntKind.i64.wrap d1 = d1 := by unfold IntKind.wrap; simp [IntKind.bits, IntKind.signed]; omega
      go_wp2_with fail
      with_reducible refine (impl_digit.at d0 _ e00 e01).mono ?_
      rintro e w1 ⟨rfl, rfl⟩
      by_cases c0 : d0 = f
      · by_cases c1 : 4 ≤ d1
        · by_cases c2 : d1 ≤ 12
          · have b0 : (d0 == f) = true := beq_iff_eq.2 c0
            have b1 : decide (4 ≤ d1) = true := decide_eq_true c1
            have b2 : decide (d1 ≤ 12) = true := decide_eq_true c2
            clear h0c h1c
            have C0 := Aside0.mk c0
            clear c0
            go_wp2_with fail
            with_reducible refine (impl_must.ok _).mono ?_
            rintro e w1 ⟨rfl, rfl⟩
            go_wp2_with fail
            obtain ⟨T, hT⟩ : ∃ T, T = S.extract 2 16 := ⟨_, rfl⟩
            have HT : Aside0 (HexOf T ((D.drop 2).take 14)) := ⟨by rw [hT]; exact HS.out.ext 2 16⟩
            have hTz : T.size = 14 := by rw [HT.out.size, List.length_take, List.length_drop, HDL.out]; rfl
            rw [← hT]
            clear hT
            have HTN : Aside0 (∀ i, i < 14 → nth ((D.drop 2).take 14) i = nth D (2 + i)) := ⟨fun i hi => by
              have := HDL.out
              rw [nth_at _ _ (by simp; omega), nth_at _ _ (by omega), List.getElem_take, List.getElem_drop]⟩
            go_loopw [9, 10] (fun v9 v10 w' => ∃ pos : Nat, w' = w1.iter T pos ∧ pos ≤ 14 ∧ Aside0 (∀ i, i < pos → okAt f d1 i (nth D (2 + i)) = true)) (fun _ _ w' => 14 - w'.iterPos w1.heap.size)
            case atStart => exact ⟨0, rfl, by omega, ⟨fun i hi => absurd hi (by omega)⟩⟩
            case round =>
              obtain ⟨pos, rfl, hpos, HK⟩ := hrel
              by_cases hp : pos < 14
              · have hpT : pos < T.size := by omega
                have hbyte := HT.out.at pos hpT
                rw [HTN.out pos hp] at hbyte
                obtain ⟨q0, q1⟩ := HS.out.2.at (2 + pos) (by rw [HDL.out]; omega)
                have HSTEP : Aside0 (okAt f d1 pos (nth D (2 + pos)) = true → Aside0 (∀ i, i < pos + 1 → okAt f d1 i (nth D (2 + i)) = true)) := ⟨fun h => ⟨fun i hi => by
                  rcases Nat.lt_or_ge i pos with h' | h'
                  · exact HK.out i h'
                  · obtain rfl : i = pos := by omega
                    exact h⟩⟩
                have HSTOP : Aside0 (okAt f d1 pos (nth D (2 + pos)) = false → rcOk f D = false) := ⟨fun h => rcOk_at pos hp (by rw [← H1.out]; exact h)⟩
                obtain ⟨d, hd⟩ : ∃ d, d = nth D (2 + pos) := ⟨_, rfl⟩
                rw [← hd] at hbyte q0 q1 HSTEP HSTOP
                have hlow : (T[pos]'hpT).toNat < 128 := by
                  have : ((T[pos]'hpT).toNat : Int) < 128 := by rw [hbyte]; unfold hexc; split <;> omega
                  omega
                have hnx : ∀ ty, (Instr.next (.pointer (some ⟨w1.heap.size, 0, none⟩)) true ty).run Try.prog (w1.iter T pos) = _ := fun ty => run_next_ascii w1 T pos ty hpT hlow
                obtain ⟨m, hm⟩ : ∃ m, m = (T[pos]'hpT).toNat := ⟨_, rfl⟩
                rw [← hm] at hbyte hnx
                clear hm hlow hd
                by_cases ha : (pos : Int) < d1
                · by_cases hd9 : d ≤ 9
                  · have m0 : 48 ≤ (m : Int) := by rw [hbyte]; unfold hexc; rw [if_pos (by omega)]; omega
                    have m1 : (m : Int) ≤ 57 := by rw [hbyte]; unfold hexc; rw [if_pos (by omega)]; omega
                    have HOK := Aside0.mk (HSTEP.out (by unfold okAt; rw [if_pos ha]; exact decide_eq_true hd9))
                    clear hbyte HSTEP HSTOP
                    go_wp2_with fail
                    with_reducible refine (impl_must.ok _).mono ?_
                    rintro e wz ⟨rfl, rfl⟩
                    go_wp2_with fail
                    go_roundw
                    case rel => exact ⟨pos + 1, rfl, by omega, HOK.out⟩
                    case measure => simp; omega
                  · have m0 : 65 ≤ (m : Int) := by rw [hbyte]; unfold hexc; rw [if_neg (by omega)]; omega
                    have m1 : decide ((m : Int) ≤ 57) = false := decide_eq_false (by omega)
                    have HNO := Aside0.mk (HSTOP.out (by unfold okAt; rw [if_pos ha]; exact decide_eq_false hd9))
                    clear hbyte HSTEP HSTOP
                    go_wp2_with fail
                    with_reducible refine (impl_must.no _).mono ?_
                    rintro e wz ⟨rfl, rfl⟩
                    exact ⟨rfl, by rw [← HD.out]; exact RC_no HNO.out, (pw_below_iter HB.out T _ HB.out.size)⟩
                · have ha' : decide ((pos : Int) < d1) = false := decide_eq_false ha
                  rcases hf with rfl | rfl
                  · by_cases hd15 : d = 15
                    · have m0 : ((m : Int) == 70) = true := by rw [beq_iff_eq, hbyte, hd15]; rfl
                      have HOK := Aside0.mk (HSTEP.out (by unfold okAt; rw [if_neg ha, if_pos rfl]; exact decide_eq_true hd15))
                      clear hbyte HSTEP HSTOP
                      go_wp2_with fail
                      with_reducible refine (impl_must.ok _).mono ?_
                      rintro e wz ⟨rfl, rfl⟩
                      go_wp2_with fail
                      go_roundw
                      case rel => exact ⟨pos + 1, rfl, by omega, HOK.out⟩
                      case measure => simp; omega
                    · have m0 : ((m : Int) == 70) = false := by rw [beq_eq_false_iff_ne, hbyte]; unfold hexc; split <;> omega
                      have HNO := Aside0.mk (HSTOP.out (by unfold okAt; rw [if_neg ha, if_pos rfl]; exact decide_eq_false hd15))
                      clear hbyte HSTEP HSTOP
                      go_wp2_with fail
                      with_reducible refine (impl_must.no _).mono ?_
                      rintro e wz ⟨rfl, rfl⟩
                      exact ⟨rfl, by rw [← HD.out]; exact RC_no HNO.out, (pw_below_iter HB.out T _ HB.out.size)⟩
                  · by_cases hd10 : 10 ≤ d
                    · have m0 : decide (65 ≤ (m : Int)) = true := decide_eq_true (by rw [hbyte]; unfold hexc; rw [if_neg (by omega)]; omega)
                      have HOK := Aside0.mk (HSTEP.out (by unfold okAt; rw [if_neg ha, if_neg (by decide)]; exact decide_eq_true hd10))
                      clear hbyte HSTEP HSTOP
                      go_wp2_with fail
                      with_reducible refine (impl_must.ok _).mono ?_
                      rintro e wz ⟨rfl, rfl⟩
                      go_wp2_with fail
                      go_roundw
                      case rel => exact ⟨pos + 1, rfl, by omega, HOK.out⟩
                      case measure => simp; omega
                    · have m0 : decide (65 ≤ (m : Int)) = false := decide_eq_false (by rw [hbyte]; unfold hexc; rw [if_pos (by omega)]; omega)
                      have HNO := Aside0.mk (HSTOP.out (by unfold okAt; rw [if_neg ha, if_neg (by decide)]; exact decide_eq_false hd10))
                      clear hbyte HSTEP HSTOP
                      go_wp2_with fail
                      with_reducible refine (impl_must.no _).mono ?_
                      rintro e wz ⟨rfl, rfl⟩
                      exact ⟨rfl, by rw [← HD.out]; exact RC_no HNO.out, (pw_below_iter HB.out T _ HB.out.size)⟩
              · obtain rfl : pos = 14 := by omega
                have hnx : ∀ ty, (Instr.next (.pointer (some ⟨w1.heap.size, 0, none⟩)) true ty).run Try.prog (w1.iter T 14) = _ := fun ty => run_next_end w1 T 14 ty (by omega)
                have hYES := Aside0.mk (rcOk_all (H0.out.symm.trans C0.out) (by rw [← H1.out]; exact c1) (by rw [← H1.out]; exact c2) (fun i hi => by rw [← H1.out]; exact HK.out i hi))
                clear HK hp
                obtain ⟨n, hn⟩ : ∃ n : Nat, d1 = (n : Int) := ⟨d1.toNat, by omega⟩
                subst hn
                have e2 : (2 + (n : Int)).toNat = 2 + n := by omega
                have HXX : Aside0 (HexOf (S.extract 2 (2 + n)) ((D.drop 2).take (nth D 1).toNat)) := ⟨by
                  rw [← H1.out, Int.toNat_natCast]
                  have hxx := HS.out.ext 2 (2 + n)
                  rw [show 2 + n - 2 = n by omega] at hxx
                  exact hxx⟩
                go_wp2
                go_ret
                exact ⟨by rw [← HD.out]; exact RC_yes hYES.out _ HXX.out, (pw_below_iter HB.out T _ HB.out.size)⟩
          · have b0 : (d0 == f) = true := beq_iff_eq.2 c0
            have b1 : decide (4 ≤ d1) = true := decide_eq_true c1
            have b2 : decide (d1 ≤ 12) = false := decide_eq_false c2
            clear h0c h1c
            have HNO := Aside0.mk (rcOk_head (f := f) (ds := D) (by rw [← H0.out, ← H1.out]; omega))
            clear c0
            go_wp2_with fail
            with_reducible refine (impl_must.no _).mono ?_
            rintro e wz ⟨rfl, rfl⟩
            exact ⟨rfl, by rw [← HD.out]; exact RC_no HNO.out, HB.out⟩
        · have b0 : (d0 == f) = true := beq_iff_eq.2 c0
          have b1 : decide (4 ≤ d1) = false := decide_eq_false c1
          clear h0c h1c
          have HNO := Aside0.mk (rcOk_head (f := f) (ds := D) (by rw [← H0.out, ← H1.out]; omega))
          clear c0
          go_wp2_with fail
          with_reducible refine (impl_must.no _).mono ?_
          rintro e wz ⟨rfl, rfl⟩
          exact ⟨rfl, by rw [← HD.out]; exact RC_no HNO.out, HB.out⟩
      · have b0 : (d0 == f) = false := beq_eq_false_iff_ne.2 c0
        clear h0c h1c
        have HNO := Aside0.mk (rcOk_head (f := f) (ds := D) (by rw [← H0.out, ← H1.out]; omega))
        clear c0
        go_wp2_with fail
        with_reducible refine (impl_must.no _).mono ?_
        rintro e wz ⟨rfl, rfl⟩
        exact ⟨rfl, by rw [← HD.out]; exact RC_no HNO.out, HB.out⟩
end Go.Proofs.Ytiejallnkgllnaa
