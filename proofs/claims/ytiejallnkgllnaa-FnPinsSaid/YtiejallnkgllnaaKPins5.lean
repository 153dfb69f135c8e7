/- Texts of this session and of the kit's print, put together by a program; what this claim does not use is left out. -/
import Derived.Test.YtiejallnkgllnaaKPins4
import Derived.Lib.SlBytesConst
import Derived.Deep.RegionWith
import Derived.WalkLawsBesides
import Derived.RegionTactic
import Derived.Defers
import Derived.Recover
import Derived.Deep.RegionHeld3
namespace Go.Proofs.Ytiejallnkgllnaa
open Go.RowKit Go.Proofs.YtiejallnkgllnaaW.PrintWords Go.Proofs.YtiejallnkgllnaaW.PrintLast Go.Proofs.YtiejallnkgllnaaW.PrintMore Go.Proofs.Ytiejallnkgllnaa.D
open Go.Proofs.Ytiejallnkgllnaa.B (xorL xorL_length)
open Go.Proofs.Ytiejallnkgllnaa.LQ
set_option linter.unusedVariables false
theorem lit_C (w : World) (e : TypeId) (xs : List Int) (fr : Nat × Nat) (h : xs.length ≤ 9223372036854775807) : Kd.C (Kd.int .u8) (w.alloc (.cells (nums .u8 xs).toArray e fr)) (some ⟨w.heap.size, 0, none⟩) xs.length xs := by
  refine ⟨rfl, h, fun hn => ⟨_, rfl, fun j p hp => ⟨[.int .u8 p], rfl, rfl, fun i u hu => ?_⟩⟩⟩
  have hi : i = 0 := by
    rcases i with _ | i
    · rfl
    · simp at hu
  subst hi
  have hu' : u = .int .u8 p := by simpa using hu.symm
  subst hu'
  rw [show (Kd.int .u8).sz = 1 from rfl, Addr.add_mid, World.cell?_alloc_mark]
  simp only [List.getElem?_toArray, nums, List.getElem?_map, Nat.zero_add, Nat.mul_one, Nat.add_zero, hp]
  rfl
def masterL : List Int := [48, 49, 50, 51, 52, 53, 54, 55, 56, 57, 109, 97, 115, 116, 101, 114]
theorem spec_l3Master.calls (w : World) :
    Calls Try.prog 67 #[] w fun e w' => ∃ (A : Option Addr) (c : Nat), e = .returned (.slice A 16 c) ∧ Kd.C (Kd.int .u8) w' A 16 masterL ∧ 16 ≤ c ∧ Below w.heap.size w w' := by
  have kc := fun (w : World) (C : Array Value) (n c : Nat) => Lib.run_convert_bytes_const (P := Try.prog) w 29 5 C n c Try.underlying29 Try.underlying5
  go_enter Try.func67, Try.ntmps67
  go_wp2_with fail
  go_ret
  exact ⟨_, _, rfl, lit_C w _ masterL _ (by decide), by decide, (Below.refl _ _).alloc (Nat.le_refl _) _⟩
/-- One more row is laid: what was read reads. -/
theorem C_lit {w : World} {k : IntKind} {A : Option Addr} {n : Nat} {xs : List Int} (h : Kd.C (Kd.int k) w A n xs) (o : Obj) : Kd.C (Kd.int k) (w.alloc o) A n xs := Kd.C_below h ((Below.refl _ _).alloc (Nat.le_refl _) _)
theorem R_base_le {w : World} {base e : Nat} {ok : Nat → Prop} {k : IntKind} {v : Value} {xs : List Int} (h : Kd.R (Kd.int k) e w base ok v xs) : ∀ j, v.ownBlock = some j → base ≤ j := fun j hj => by
  obtain ⟨h0, inner, ho, hr⟩ := h
  rcases ho.2 with ⟨rfl, _⟩ | ⟨g, cap, cur, rfl, hb, _⟩
  · simp [Value.ownBlock] at hj
  · have : g = j := by simpa [Value.ownBlock] using hj
    omega
set_option maxHeartbeats 2000000 in
set_option maxRecDepth 100000 in
theorem spec_l3Tag.good (k : Nat) (A0 : Option Addr) (c0 : Nat) (l0 : List Int) (A1 : Option Addr) (c1 : Nat) (l1 : List Int) (A2 : Option Addr) (c2 : Nat) (l2 t1 t2 : List Int) (w : World) (hr0 : Kd.C (Kd.int .u8) w A0 l0.length l0) (hc0 : l0.length ≤ c0) (hr1 : Kd.C (Kd.int .u8) w A1 l1.length l1) (hc1 : l1.length ≤ c1) (hr2 : Kd.C (Kd.int .u8) w A2 l2.length l2) (hc2 : l2.length ≤ c2)
    (hl : l1.length + l2.length ≤ 1000) (h1 : spec_Cmac.f k l0 [77] = some t1) (h2 : spec_Cmac.f k t1 (l1 ++ l2) = some t2) :
    Calls Try.prog 105 #[.slice A0 l0.length c0, .slice A1 l1.length c1, .slice A2 l2.length c2] w fun e w' => ∃ v0_ : Value, e = .returned (v0_) ∧ Kd.R (Kd.int .u8) 5 w' w.heap.size (fun _ => True) v0_ t2 ∧ Below w.heap.size w w' := by
  have kc := fun (w : World) (C : Array Value) (n c : Nat) => Lib.run_convert_bytes_const (P := Try.prog) w 29 5 C n c Try.underlying29 Try.underlying5
  obtain ⟨L3, hL3⟩ : ∃ L3, L3 = l1 ++ l2 := ⟨_, rfl⟩
  rw [← hL3] at h2
  have HL3 := Aside0.mk hL3
  clear hL3
  have HR0 := Aside0.mk hr0
  have HR1 := Aside0.mk hr1
  have HR2 := Aside0.mk hr2
  have HC := Aside0.mk (And.intro hc0 (And.intro hc1 hc2))
  have HL := Aside0.mk hl
  have K1 := Aside0.mk h1
  have K2 := Aside0.mk h2
  clear hr0 hr1 hr2 hc0 hc1 hc2 hl h1 h2
  go_enter Try.func105, Try.ntmps105
  go_wp2_with fail
  have HB : Aside0 (Below w.heap.size w (w.alloc (.cells #[.int .u8 77] 5 (1, 2)))) := ⟨(Below.refl _ _).alloc (Nat.le_refl _) _⟩
  refine (spec_Cmac.calls k A0 c0 l0 _ 1 [77] t1 _ (Kd.C_below HR0.out HB.out) HC.out.1 (lit_C w _ [77] _ (by decide)) (by decide) K1.out).mono ?_
  rintro e w1 ⟨v1, rfl, ho1, hb1⟩
  obtain ⟨A3, c3, e3⟩ := Kd.R_slice ho1
  subst e3
  have W1 := Aside0.mk (below_step HB.out hb1)
  have C1 := Aside0.mk (And.intro (Kd.R_reads' ho1).2.1 (Kd.R_reads' ho1).2.2)
  clear ho1 hb1
  go_wp2_with fail
  refine (spec_l1Bytes.calls A1 c1 l1 l1 _ (Kd.C_below HR1.out W1.out) HC.out.2.1 (by have := HL.out; unfold spec_l1Bytes.f; rw [if_pos (by omega)])).mono ?_
  rintro e w2 ⟨v2, rfl, ho2, hb2⟩
  have O2 := Aside0.mk ho2
  have B2 := Aside0.mk hb2
  clear ho2 hb2
  go_wp2_with ((with_reducible refine gate_builtin (b := .append) (xs := #[.tmp 12, .tmp 13]) rfl ?_); at_builtin; refine Kd.R_append_rows (Kd.int .u8) (w0 := w1) w1.heap.size rfl (.tmp 12) (.tmp 13) 29 5 (.int .u8 0) 1 rfl Try.underlying29 info5 rfl (by decide) (by omega) v2 l1 l2 A2 l2.length c2 (fun _ => True) (fun _ => False) rfl rfl O2.out (Kd.C_below HR2.out (below_step W1.out B2.out)) (fun _ _ h => h) (fun _ h => h.elim) (fun _ _ => trivial) B2.out B2.out.size (by have := HL.out; omega) ?_; intro v3 w3 ho3 hb3 hg3 hn3; clear hg3 hn3; rw [← HL3.out] at ho3; have O3 := Aside0.mk ho3; have B3 := Aside0.mk hb3; clear ho3 hb3; obtain ⟨A4, c4, e4⟩ := Kd.R_slice O3.out; subst e4)
  refine (spec_Cmac.calls k A3 c3 t1 A4 c4 L3 t2 _ (Kd.C_below C1.out.2 B3.out) C1.out.1 (Kd.R_reads' O3.out).2.2 (Kd.R_reads' O3.out).2.1 K2.out).mono ?_
  rintro e w4 ⟨v4, rfl, ho4, hb4⟩
  have W4 := Aside0.mk (below_step (below_step W1.out B3.out) hb4)
  have O4 := Aside0.mk (Kd.R_lower ho4 (Nat.le_trans W1.out.size B3.out.size))
  clear ho4 hb4
  go_wp2_with fail
  go_ret
  exact ⟨_, rfl, O4.out, W4.out⟩
end Go.Proofs.Ytiejallnkgllnaa
namespace Go.Proofs.Ytiejallnkgllnaa
open Go.RowKit Go.Proofs.YtiejallnkgllnaaW.PrintWords Go.Proofs.YtiejallnkgllnaaW.PrintLast Go.Proofs.YtiejallnkgllnaaW.PrintMore Go.Proofs.Ytiejallnkgllnaa.D
open Go.Proofs.Ytiejallnkgllnaa.B (xorL xorL_length)
open Go.Proofs.Ytiejallnkgllnaa.LQ
set_option linter.unusedVariables false
set_option linter.unusedSimpArgs false
theorem yield_ {P : Program} {Q : Exit → Act → World → Prop} {oi : Oper} {N : Option Tmp} {a : Act} {w w1 : World} {K : Act → World → Prop} {v : Value} {c : Bool} (hw : c = true) (hN : oi.dst = N) (hrun : (execOp a.eval oi).run P w = .ok (.value v) w1) (h : K (a.put N v) w1) : if c = true then Oper.wp P oi a w K Q else K (a.put N undef) w := by
  subst hN
  rw [if_pos hw]
  unfold Oper.wp
  rw [hrun]
  exact h
theorem R_of_C {w : World} {base e : Nat} {ok : Nat → Prop} {k : IntKind} {v : Value} {xs : List Int} {n : Nat} (h : Kd.R (Kd.int k) e w base ok v xs) (hn : xs.length = n) : ∃ A c, v = .slice A n c ∧ Aside0 (n ≤ c ∧ Kd.C (Kd.int k) w A n xs) := by
  obtain ⟨A, c, rfl⟩ := Kd.R_slice h
  subst hn
  exact ⟨A, c, rfl, ⟨(Kd.R_reads' h).2⟩⟩
def spec_Wrap.T5 : Bool × List (List Nat × List Nat) := (true, [([], []), ([], []), ([1], [1]), ([0, 2], [0, 2]), ([], []), ([4], [4]), ([], []), ([5, 6, 3], [5, 6]), ([3, 7, 7], [3, 7]), ([8, 8, 0, 1, 2, 3, 4, 5, 6, 7, 8], [8])])
def spec_Wrap.B5 : List Nat := [0, 0, 2, 7, 0, 16, 0, 127, 255, 511]
theorem spec_Wrap.tab5 : rtab .any (opsOf Try.f91 5) = spec_Wrap.T5 := by kernel_rfl
theorem spec_Wrap.bits5 : waitsOk spec_Wrap.T5.2 spec_Wrap.B5 = true := by kernel_rfl
theorem lit_R (w : World) (xs : List Int) (h : xs.length ≤ 9223372036854775807) : Kd.R (Kd.int .u8) 5 (w.alloc (.cells (nums .u8 xs).toArray 5)) w.heap.size (fun _ => True) (.slice (some ⟨w.heap.size, 0, none⟩) xs.length xs.length) xs := Blk.R (base := w.heap.size) (Blk.new w .u8 5 xs) (Nat.le_refl _) rfl h
theorem C_ne {w w1 : World} {k : IntKind} {A : Option Addr} {n : Nat} {xs : List Int} {r : Option Nat} (h : Kd.C (Kd.int k) w A n xs) (hA : ∀ ad, A = some ad → some ad.block ≠ r) (hg : w.grownBy w1 r) : Kd.C (Kd.int k) w1 A n xs := by
  obtain ⟨h1, h2, h3⟩ := h
  refine ⟨h1, h2, fun hn => ?_⟩
  obtain ⟨ad, e, hc⟩ := h3 hn
  refine ⟨ad, e, fun j p hp => ?_⟩
  obtain ⟨c, hl, hk, hcell⟩ := hc j p hp
  refine ⟨c, hl, hk, fun i u hu => hg.cell (hcell i u hu) fun he => ?_⟩
  have hb : (ad.add (j * (Kd.int k).sz + i)).block = ad.block := by unfold Addr.add; split <;> rfl
  rw [hb] at he
  exact hA ad e he
set_option maxHeartbeats 4000000 in
set_option maxRecDepth 100000 in
theorem spec_Wrap.good (k : Nat) (A0 : Option Addr) (c0 : Nat) (l0 : List Int) (use gen : Int) (A2 : Option Addr) (c2 : Nat) (key t1 tag ek x body : List Int) (w : World) (hr0 : Kd.C (Kd.int .u8) w A0 16 l0) (hc0 : 16 ≤ c0) (hr2 : Kd.C (Kd.int .u8) w A2 16 key) (hc2 : 16 ≤ c2)
    (hu : 1 ≤ use ∧ use ≤ 3) (hg : 0 ≤ gen ∧ gen ≤ 255) (h1 : spec_Cmac.f k l0 [77] = some t1) (h2 : spec_Cmac.f k t1 ([75, use, gen, 16] ++ key) = some tag) (h3 : spec_Cmac.f k l0 [69] = some ek) (h4 : spec_l1Xor.f k key tag = some x) (h5 : spec_Aes.f k ek x false = some body) (ht : tag.length = 16) (hel : ek.length = 16) (hxl : x.length = 16) (hbl : body.length = 16) :
    Calls Try.prog 91 #[.slice A0 16 c0, .agg #[.int .i64 use, .int .i64 gen, .slice A2 16 c2]] w fun e w' => ∃ A n c, e = .returned (.slice A n c) ∧ Below w.heap.size w w' := by
  have kc := fun (w : World) (C : Array Value) (n c : Nat) => Lib.run_convert_bytes_const (P := Try.prog) w 29 5 C n c Try.underlying29 Try.underlying5
  have hl0 := hr0.1
  have hkl := hr2.1
  have u1 : decide (use < 1) = false := decide_eq_false (by omega)
  have u2 : decide (3 < use) = false := decide_eq_false (by omega)
  have g1 : decide (gen < 0) = false := decide_eq_false (by omega)
  have g2 : decide (255 < gen) = false := decide_eq_false (by omega)
  have wu : IntKind.u8.wrap use = use := by show use % 256 = use; omega
  have wg : IntKind.u8.wrap gen = gen := by show gen % 256 = gen; omega
  have HR0 := Aside0.mk hr0
  have HR2 := Aside0.mk hr2
  have HC := Aside0.mk (And.intro hc0 hc2)
  have KT : Aside0 (∀ (W : World) (g : Nat), Kd.C (Kd.int .u8) W A0 16 l0 → Kd.C (Kd.int .u8) W (some ⟨g, 0, none⟩) 4 [75, use, gen, 16] → Kd.C (Kd.int .u8) W A2 16 key → Calls Try.prog 105 #[.slice A0 16 c0, .slice (some ⟨g, 0, none⟩) 4 4, .slice A2 16 c2] W fun e w' => ∃ v0_ : Value, e = .returned v0_ ∧ Kd.R (Kd.int .u8) 5 w' W.heap.size (fun _ => True) v0_ tag ∧ Below W.heap.size W w') := ⟨fun W g a b c => by
    have := spec_l3Tag.good k A0 c0 l0 (some ⟨g, 0, none⟩) 4 [75, use, gen, 16] A2 c2 key t1 tag W (by rw [hl0]; exact a) (by omega) b (by simp) (by rw [hkl]; exact c) (by omega) (by rw [hkl]; simp) h1 h2
    rw [hl0, hkl] at this
    exact this⟩
  have KC : Aside0 (∀ (W : World) (g : Nat), Kd.C (Kd.int .u8) W A0 16 l0 → Kd.C (Kd.int .u8) W (some ⟨g, 0, none⟩) 1 [69] → Calls Try.prog 107 #[.slice A0 16 c0, .slice (some ⟨g, 0, none⟩) 1 1] W fun e w' => ∃ v0_ : Value, e = .returned v0_ ∧ Kd.R (Kd.int .u8) 5 w' W.heap.size (fun _ => True) v0_ ek ∧ Below W.heap.size W w') := ⟨fun W g a b => by
    have := spec_Cmac.calls k A0 c0 l0 (some ⟨g, 0, none⟩) 1 [69] ek W (by rw [hl0]; exact a) (by omega) b (by simp) h3
    rw [hl0] at this
    exact this⟩
  have KX : Aside0 (∀ (W : World) (A3 : Option Addr) (c3 : Nat), Kd.C (Kd.int .u8) W A2 16 key → 16 ≤ c3 → Kd.C (Kd.int .u8) W A3 16 tag → Calls Try.prog 45 #[.slice A2 16 c2, .slice A3 16 c3] W fun e w' => ∃ v0_ : Value, e = .returned v0_ ∧ Kd.R (Kd.int .u8) 5 w' W.heap.size (fun _ => True) v0_ x ∧ Below W.heap.size W w') := ⟨fun W A3 c3 a b c => by
    have := spec_l1Xor.calls k A2 c2 key A3 c3 tag x W (by rw [hkl]; exact a) (by omega) (by rw [ht]; exact c) (by omega) h4
    rw [hkl, ht] at this
    exact this⟩
  have KA : Aside0 (∀ (W : World) (A5 : Option Addr) (c5 : Nat) (A6 : Option Addr) (c6 : Nat), 16 ≤ c5 → Kd.C (Kd.int .u8) W A5 16 ek → 16 ≤ c6 → Kd.C (Kd.int .u8) W A6 16 x → Calls Try.prog 106 #[.slice A5 16 c5, .slice A6 16 c6, .bool false] W fun e w' => ∃ v0_ : Value, e = .returned v0_ ∧ Kd.R (Kd.int .u8) 5 w' W.heap.size (fun _ => True) v0_ body ∧ Below W.heap.size W w') := ⟨fun W A5 c5 A6 c6 d a b c => by
    have := spec_Aes.calls k A5 c5 ek A6 c6 x false body W (by rw [hel]; exact a) (by omega) (by rw [hxl]; exact c) (by omega) h5
    rw [hel, hxl] at this
    exact this⟩
  have HL := Aside0.mk (And.intro hl0 (And.intro hkl (And.intro ht (And.intro hel (And.intro hxl hbl)))))
  clear hr0 hr2 hc0 hc2 h1 h2 h3 h4 h5 hl0 hkl ht hbl hel hxl hu hg
  go_enter Try.func91, Try.ntmps91
  go_wp2_with fail
  have HB := Aside0.mk (((Below.refl w.heap.size w).alloc (Nat.le_refl _) (.cells #[.int .i64 use, .int .i64 gen, .slice A2 16 c2] 143)).alloc (by simp) (.cells #[.int .u8 75, .int .u8 use, .int .u8 gen, .int .u8 16] 5))
  have BK := Aside0.mk (blk_alloc (blk_new w (.cells #[.int .i64 use, .int .i64 gen, .slice A2 16 c2] 143)) (.cells #[.int .u8 75, .int .u8 use, .int .u8 gen, .int .u8 16] 5))
  have HH := Aside0.mk (lit_R (w.alloc (.cells #[.int .i64 use, .int .i64 gen, .slice A2 16 c2] 143)) [75, use, gen, 16] (by simp))
  rw [show (nums .u8 [75, use, gen, 16]).toArray = #[.int .u8 75, .int .u8 use, .int .u8 gen, .int .u8 16] from rfl, show (w.alloc (.cells #[.int .i64 use, .int .i64 gen, .slice A2 16 c2] 143)).heap.size = w.heap.size + 1 by simp] at HH
  replace HH : Aside0 (Kd.R (Kd.int .u8) 5 _ (w.heap.size + 1) (fun _ => True) (.slice (some ⟨w.heap.size + 1, 0, none⟩) 4 4) [75, use, gen, 16]) := HH
  obtain ⟨g1, hg1⟩ : ∃ g1, g1 = w.heap.size + 1 := ⟨_, rfl⟩
  rw [← hg1] at HH ⊢
  have HG := Aside0.mk hg1
  clear hg1
  generalize (w.alloc (.cells #[.int .i64 use, .int .i64 gen, .slice A2 16 c2] 143)).alloc (.cells #[.int .u8 75, .int .u8 use, .int .u8 gen, .int .u8 16] 5) = W0 at HB BK HH ⊢
  refine (KT.out _ _ (Kd.C_below HR0.out HB.out) (Kd.R_reads' HH.out).2.2 (Kd.C_below HR2.out HB.out)).mono ?_
  rintro e w1 ⟨v1, rfl, ho1, hb1⟩
  obtain ⟨A3, c3, rfl, C3⟩ := R_of_C ho1 HL.out.2.2.1
  have HB := Aside0.mk (below_step HB.out hb1)
  have BK := Aside0.mk (blk_below BK.out hb1)
  have HH := Aside0.mk (Kd.R_below HH.out hb1)
  clear ho1 hb1
  go_wp2_with fail
  refine start_ (n := 10) (S := fun w' => w'.cell? ⟨w.heap.size, 2, none⟩ = some (.slice A2 16 c2)) (ds := []) #[false, false, false, false, false, false, false, false, false, false] (by kernel_rfl) rfl rfl ((blk_cell (blk_drew BK.out) 2).trans rfl) (fun hHeld => ?_); refine with_tabW spec_Wrap.tab5 spec_Wrap.bits5 (fun HT_ HW_ => ?_)
  have HB := Aside0.mk (below_drew1 HB.out)
  have BK := Aside0.mk (blk_drew BK.out)
  have HH := Aside0.mk (Kd.R_drew HH.out)
  have C3 := Aside0.mk (And.intro C3.out.1 (Kd.C_drew C3.out.2))
  generalize w1.drew = w2 at HB BK HH C3 hHeld ⊢
  refine pure_ (i := 0) (N := some 49) (v := ?_) (a' := ?_) #[true, false, false, false, false, false, false, false, false, false] rfl rfl (any_of HT_.out (by kernel_rfl)) (fun _ _ _ h => h) (Or.inl ⟨by rfl, ?_⟩) ?_ ?_
  rotate_left
  · intro w'
    go_simp
    with_reducible rfl
  rotate_left
  · simp only [Act.put, List.setIfInBounds_toArray, List.set_cons_zero, List.set_cons_succ, i64_w, i32_w]
    rfl
  refine pure_ (i := 4) (N := some 53) (v := ?_) (a' := ?_) #[true, false, false, false, true, false, false, false, false, false] rfl rfl (any_of HT_.out (by kernel_rfl)) (fun _ _ _ h => h) (Or.inl ⟨by rfl, ?_⟩) ?_ ?_
  rotate_left
  · intro w'
    go_simp
    with_reducible rfl
  rotate_left
  · simp only [Act.put, List.setIfInBounds_toArray, List.set_cons_zero, List.set_cons_succ, i64_w, i32_w]
    rfl
  refine pure_ (i := 6) (N := some 55) (v := ?_) (a' := ?_) #[true, false, false, false, true, false, true, false, false, false] rfl rfl (any_of HT_.out (by kernel_rfl)) (fun _ _ _ h => h) (Or.inl ⟨by rfl, ?_⟩) ?_ ?_
  rotate_left
  · intro w'
    go_simp
    with_reducible rfl
  rotate_left
  · simp only [Act.put, List.setIfInBounds_toArray, List.set_cons_zero, List.set_cons_succ, i64_w, i32_w]
    rfl
  refine take_ (i := 5) (N := some 54) (v := ?_) (a' := ?_) #[true, false, false, false, true, true, true, false, false, false] rfl rfl (take_ofW HT_.out HW_.out (by kernel_rfl)) (fun _ _ _ h => h) (Or.inl ⟨by rfl, ?_⟩) hHeld ?_ ?_
  rotate_left
  · intro w' s0
    go_simp
    with_reducible rfl
  rotate_left
  · simp only [Act.put, List.setIfInBounds_toArray, List.set_cons_zero, List.set_cons_succ, i64_w, i32_w]
    rfl
  refine one_ (i := 1) (N := some 50) #[true, true, false, false, true, true, true, false, false, false] rfl rfl (one_of HT_.out (by kernel_rfl)) (by decide) (fun K hK => ?_)
  refine yield_ rfl rfl (v := .slice (some ⟨w2.heap.size, 0, none⟩) 1 1) (w1 := w2.alloc (.cells #[.int .u8 69] 5)) (by go_simp) ?_
  refine hK.out _ _ ((blk_cell (blk_alloc BK.out _) 2).trans rfl) (fun hHeld => ?_)
  clear hK K
  refine norm_ (a' := ?_) ?_ ?_
  rotate_left
  · show Act.put _ (some 50) _ = _
    simp only [Act.put, List.setIfInBounds_toArray, List.set_cons_zero, List.set_cons_succ, i64_w, i32_w]
    rfl
  refine one_ (i := 2) (N := some 51) #[true, true, true, false, true, true, true, false, false, false] rfl rfl (one_of HT_.out (by kernel_rfl)) (by decide) (fun K hK => ?_)
  refine yield_ rfl rfl (v := .slice (some ⟨w2.heap.size, 0, none⟩) 1 1) (w1 := w2.alloc (.cells #[.int .u8 69] 5 (1, 2))) (by go_simp) ?_
  refine hK.out _ _ ((blk_cell (blk_alloc BK.out _) 2).trans rfl) (fun hHeld => ?_)
  clear hK K
  refine norm_ (a' := ?_) ?_ ?_
  rotate_left
  · show Act.put _ (some 51) _ = _
    simp only [Act.put, List.setIfInBounds_toArray, List.set_cons_zero, List.set_cons_succ, i64_w, i32_w]
    rfl
  have HT1 := Aside0.mk (lit_C w2 5 [69] (1, 2) (by decide))
  have HB := Aside0.mk (HB.out.alloc HB.out.size (.cells #[.int .u8 69] 5 (1, 2)))
  have HH := Aside0.mk (Kd.R_below HH.out ((Below.refl _ _).alloc (Nat.le_refl _) (.cells #[.int .u8 69] 5 (1, 2))))
  have BK := Aside0.mk (blk_alloc BK.out (.cells #[.int .u8 69] 5 (1, 2)))
  have C3 := Aside0.mk (And.intro C3.out.1 (C_lit C3.out.2 (.cells #[.int .u8 69] 5 (1, 2))))
  replace HT1 : Aside0 (Kd.C (Kd.int .u8) (w2.alloc (.cells #[.int .u8 69] 5 (1, 2))) (some ⟨w2.heap.size, 0, none⟩) 1 [69]) := HT1
  generalize w2.alloc (.cells #[.int .u8 69] 5 (1, 2)) = w3 at HB BK HH C3 HT1 hHeld ⊢
  refine one_ (i := 3) (N := some 52) #[true, true, true, true, true, true, true, false, false, false] rfl rfl (one_of HT_.out (by kernel_rfl)) (by decide) (fun K hK => ?_)
  refine goes_ Try.func107 (by kernel_rfl) rfl #[.slice A0 16 c0, .slice (some ⟨w2.heap.size, 0, none⟩) 1 1] (by rfl) rfl rfl (by (try simp only [List.map_toArray, List.map_cons, List.map_nil]); first | done | rfl) ?_
  refine (KC.out _ _ (Kd.C_below HR0.out HB.out) HT1.out).mono ?_
  rintro e w4 ⟨v4, rfl, ho4, hb4⟩
  refine ⟨_, rfl, ?_⟩
  obtain ⟨A5, c5, rfl, C5⟩ := R_of_C ho4 HL.out.2.2.2.1
  have HB := Aside0.mk (below_step HB.out hb4)
  have BK := Aside0.mk (blk_below BK.out hb4)
  have HH := Aside0.mk (Kd.R_below HH.out hb4)
  have C3 := Aside0.mk (And.intro C3.out.1 (Kd.C_below C3.out.2 hb4))
  clear ho4 hb4 HT1
  refine hK.out _ _ ((blk_cell BK.out 2).trans rfl) (fun hHeld => ?_)
  clear hK K
  refine norm_ (a' := ?_) ?_ ?_
  rotate_left
  · show Act.put _ (some 52) _ = _
    simp only [Act.put, List.setIfInBounds_toArray, List.set_cons_zero, List.set_cons_succ, i64_w, i32_w]
    rfl
  refine one_ (i := 7) (N := some 56) #[true, true, true, true, true, true, true, true, false, false] rfl rfl (one_of HT_.out (by kernel_rfl)) (by decide) (fun K hK => ?_)
  refine goes_ Try.func45 (by kernel_rfl) rfl #[.slice A2 16 c2, .slice A3 16 c3] (by rfl) rfl rfl (by (try simp only [List.map_toArray, List.map_cons, List.map_nil]); first | done | rfl) ?_
  refine (KX.out _ _ _ (Kd.C_below HR2.out HB.out) C3.out.1 C3.out.2).mono ?_
  rintro e w5 ⟨v5, rfl, ho5, hb5⟩
  refine ⟨_, rfl, ?_⟩
  obtain ⟨A6, c6, rfl, C6⟩ := R_of_C ho5 HL.out.2.2.2.2.1
  have HB := Aside0.mk (below_step HB.out hb5)
  have BK := Aside0.mk (blk_below BK.out hb5)
  have HH := Aside0.mk (Kd.R_below HH.out hb5)
  have C3 := Aside0.mk (And.intro C3.out.1 (Kd.C_below C3.out.2 hb5))
  have C5 := Aside0.mk (And.intro C5.out.1 (Kd.C_below C5.out.2 hb5))
  clear ho5 hb5
  refine hK.out _ _ ((blk_cell BK.out 2).trans rfl) (fun hHeld => ?_)
  clear hK K
  refine norm_ (a' := ?_) ?_ ?_
  rotate_left
  · show Act.put _ (some 56) _ = _
    simp only [Act.put, List.setIfInBounds_toArray, List.set_cons_zero, List.set_cons_succ, i64_w, i32_w]
    rfl
  refine one_ (i := 8) (N := some 57) #[true, true, true, true, true, true, true, true, true, false] rfl rfl (one_of HT_.out (by kernel_rfl)) (by decide) (fun K hK => ?_)
  refine goes_ Try.func106 (by kernel_rfl) rfl #[.slice A5 16 c5, .slice A6 16 c6, .bool false] (by rfl) rfl rfl (by (try simp only [List.map_toArray, List.map_cons, List.map_nil]); first | done | rfl) ?_
  refine (KA.out _ _ _ _ _ C5.out.1 C5.out.2 C6.out.1 C6.out.2).mono ?_
  rintro e w6 ⟨v6, rfl, ho6, hb6⟩
  refine ⟨_, rfl, ?_⟩
  have XN := Aside0.mk (And.intro (R_base_le ho6) (Kd.R_lt HH.out))
  obtain ⟨A7, c7, rfl, C7⟩ := R_of_C ho6 HL.out.2.2.2.2.2
  have HB := Aside0.mk (below_step HB.out hb6)
  have BK := Aside0.mk (blk_below BK.out hb6)
  have HH := Aside0.mk (Kd.R_lower (Kd.R_below HH.out hb6) (show w.heap.size ≤ g1 by have := HG.out; omega))
  have C3 := Aside0.mk (And.intro C3.out.1 (Kd.C_below C3.out.2 hb6))
  clear ho6 hb6
  refine hK.out _ _ ((blk_cell BK.out 2).trans rfl) (fun hHeld => ?_)
  clear hK K
  refine norm_ (a' := ?_) ?_ ?_
  rotate_left
  · show Act.put _ (some 57) _ = _
    simp only [Act.put, List.setIfInBounds_toArray, List.set_cons_zero, List.set_cons_succ, i64_w, i32_w]
    rfl
  refine pure_ (i := 9) (N := some 7) (v := ?_) (a' := ?_) #[true, true, true, true, true, true, true, true, true, true] rfl rfl (any_of HT_.out (by kernel_rfl)) (fun _ _ _ h => h) (Or.inl ⟨by rfl, ?_⟩) ?_ ?_
  rotate_left
  · intro w'
    go_simp
    with_reducible rfl
  rotate_left
  · simp only [Act.put, List.setIfInBounds_toArray, List.set_cons_zero, List.set_cons_succ, i64_w, i32_w]
    rfl
  refine done_ (done_of HT_.out (by kernel_rfl)) ?_
  have CN : Aside0 (∀ ad, A7 = some ad → some ad.block ≠ (Value.slice (some ⟨g1, 0, none⟩) 4 4).ownBlock) := ⟨fun ad he hh => by
    have a := XN.out.1 ad.block (by rw [he]; rfl)
    have b := XN.out.2 g1 rfl
    injection hh with hh
    have hq : ad.block = g1 := hh
    omega⟩
  obtain ⟨L1, hL1⟩ : ∃ L1, L1 = [75, use, gen, 16] ++ tag := ⟨_, rfl⟩
  have HL1 := Aside0.mk hL1
  have HN1 : Aside0 (L1.length = 20) := ⟨by rw [hL1, List.length_append, HL.out.2.2.1]; rfl⟩
  clear hL1
  have HNt := Aside0.mk HL.out.2.2.1
  go_wp2_with (first | ((with_reducible refine gate_dst (N := 60) rfl ?_); (with_reducible refine gate_builtin (b := .append) (xs := #[.tmp 58, .tmp 59]) rfl ?_); at_builtin; refine Kd.R_append_rows (Kd.int .u8) (w0 := w) w.heap.size rfl (.tmp 58) (.tmp 59) 29 5 (.int .u8 0) 1 rfl Try.underlying29 info5 rfl (by decide) (by omega) (.slice (some ⟨g1, 0, none⟩) 4 4) [75, use, gen, 16] tag A3 16 c3 (fun _ => True) (fun _ => False) rfl rfl HH.out C3.out.2 (fun _ _ h => h) (fun _ h => h.elim) (fun _ _ => trivial) HB.out HB.out.size (by simp) ?_; intro v8 w8 ho8 hb8 hg8 hn8; clear hn8; rw [← HL1.out] at ho8; have O8 := Aside0.mk ho8; have HB := Aside0.mk hb8; have C7 := Aside0.mk (And.intro C7.out.1 (C_ne C7.out.2 CN.out hg8)); clear ho8 hb8 hg8) | ((with_reducible refine gate_dst (N := 62) rfl ?_); (with_reducible refine gate_builtin (b := .append) (xs := #[.tmp 60, .tmp 61]) rfl ?_); at_builtin; refine Kd.R_append_rows (Kd.int .u8) (w0 := w) w.heap.size rfl (.tmp 60) (.tmp 61) 29 5 (.int .u8 0) 1 rfl Try.underlying29 info5 rfl (by decide) (by omega) v8 L1 body A7 16 c7 (fun _ => True) (fun _ => False) rfl rfl O8.out C7.out.2 (fun _ _ h => h) (fun _ h => h.elim) (fun _ _ => trivial) HB.out HB.out.size (by rw [HN1.out]; omega) ?_; intro v9 w9 ho9 hb9 hg9 hn9; clear hn9 hg9; have O9 := Aside0.mk ho9; have HB := Aside0.mk hb9; clear ho9 hb9; obtain ⟨A9, c9, e9⟩ := Kd.R_slice O9.out; subst e9))
  go_ret
  exact ⟨_, _, _, rfl, HB.out⟩
end Go.Proofs.Ytiejallnkgllnaa
namespace Go.Proofs.Ytiejallnkgllnaa
open Go.RowKit Go.Proofs.YtiejallnkgllnaaW.PrintWords Go.Proofs.YtiejallnkgllnaaW.PrintLast Go.Proofs.YtiejallnkgllnaaW.PrintMore Go.Proofs.Ytiejallnkgllnaa.D
open Go.Proofs.Ytiejallnkgllnaa.B (xorL xorL_length)
open Go.Proofs.Ytiejallnkgllnaa.LQ
set_option linter.unusedVariables false
theorem spec_Wrap.any (A0 : Option Addr) (c0 : Nat) (l0 : List Int) (use gen : Int) (A2 : Option Addr) (c2 : Nat) (key : List Int) (w : World) (hr0 : Kd.C (Kd.int .u8) w A0 16 l0) (hc0 : 16 ≤ c0) (hr2 : Kd.C (Kd.int .u8) w A2 16 key) (hc2 : 16 ≤ c2)
    (hu : 1 ≤ use ∧ use ≤ 3) (hg : 0 ≤ gen ∧ gen ≤ 255) (h0 : Bytes l0) (h2 : Bytes key) :
    Calls Try.prog 91 #[.slice A0 16 c0, .agg #[.int .i64 use, .int .i64 gen, .slice A2 16 c2]] w fun e w' => ∃ A n c, e = .returned (.slice A n c) ∧ Below w.heap.size w w' := by
  have g0 : G16 l0 := ⟨hr0.1, h0⟩
  have g2 : G16 key := ⟨hr2.1, h2⟩
  have hk2 := g2.1
  have one : ∀ x : Int, 0 ≤ x ∧ x ≤ 255 → Bytes [x] := fun x hx y hy => by rw [List.mem_singleton.1 hy]; exact hx
  obtain ⟨t1, ht1, e1⟩ := cmac_some l0 [77] g0 (one 77 (by omega)) (by simp) 2000 (by omega)
  have hb4 : Bytes ([75, use, gen, 16] ++ key) := app_bytes (fun y hy => by
    rcases List.mem_cons.1 hy with rfl | hy
    · omega
    · rcases List.mem_cons.1 hy with rfl | hy
      · omega
      · rcases List.mem_cons.1 hy with rfl | hy
        · omega
        · rw [List.mem_singleton.1 hy]; omega) h2
  obtain ⟨tag, htag, e2⟩ := cmac_some t1 ([75, use, gen, 16] ++ key) ht1 hb4 (by simp; omega) 2000 (by omega)
  obtain ⟨ek, hek, e3⟩ := cmac_some l0 [69] g0 (one 69 (by omega)) (by simp) 2000 (by omega)
  obtain ⟨e4, gx⟩ := xor16 key tag g2 htag 2000 (by omega)
  obtain ⟨body, hbo, e5⟩ := aes_some ek _ hek gx 2000 (by omega)
  exact spec_Wrap.good 2000 A0 c0 l0 use gen A2 c2 key t1 tag ek _ body w hr0 hc0 hr2 hc2 hu hg e1 e2 e3 e4 e5 htag.1 hek.1 gx.1 hbo.1
end Go.Proofs.Ytiejallnkgllnaa
namespace Go.Proofs.Ytiejallnkgllnaa.LQ
open Go.RowKit Go.Proofs.YtiejallnkgllnaaW.PrintWords Go.Proofs.YtiejallnkgllnaaW.PrintLast Go.Proofs.YtiejallnkgllnaaW.PrintMore
attribute [local go_sem] max2_int min2_int max_two min_two max_three min_three max_four min_four   -- for this text's walks alone
set_option linter.unusedVariables false
set_option linter.unusedSimpArgs false

/-- A state of type 107 at block g of W; what its slices lead to came in by w0. -/
def IsS107 (w0 W : World) (g : Nat) (f0 : List Int) (f1 : Int) : Prop := ∃ A0 c0, W.heap[g]? = some (.cells #[.slice A0 f0.length c0, .int .i64 f1] 107 (0, 0)) ∧ w0.heap.size ≤ g ∧ Kd.C (Kd.int .u8) w0 A0 f0.length f0
theorem IsS107.grown {w0 W : World} {g : Nat} {f0 : List Int} {f1 : Int} {W1 : World} {row : Option Nat} (h : IsS107 w0 W g f0 f1) (hw : W.grownBy W1 row) (hne : some g ≠ row) : IsS107 w0 W1 g f0 f1 := by
  obtain ⟨A0, c0, hb, hg, hr0⟩ := h
  exact ⟨A0, c0, blk_grown hb hw hne, hg, hr0⟩
theorem IsS107.below {w0 W : World} {g : Nat} {f0 : List Int} {f1 : Int} {W1 : World} (h : IsS107 w0 W g f0 f1) (hw : Below W.heap.size W W1) : IsS107 w0 W1 g f0 f1 := h.grown (grown_of_below hw none) (by simp)
theorem IsS107.alloc {w0 W : World} {g : Nat} {f0 : List Int} {f1 : Int} (h : IsS107 w0 W g f0 f1) (o : Obj) : IsS107 w0 (W.alloc o) g f0 f1 := h.below (below_alloc (Below.refl _ _) o)
theorem IsS107.drewN {w0 W : World} {g : Nat} {f0 : List Int} {f1 : Int} (h : IsS107 w0 W g f0 f1) (m : Nat) : IsS107 w0 (W.drewN m) g f0 f1 := h
theorem IsS107.drew {w0 W : World} {g : Nat} {f0 : List Int} {f1 : Int} (h : IsS107 w0 W g f0 f1) : IsS107 w0 W.drew g f0 f1 := h
theorem IsS107.apart {w0 W : World} {g : Nat} {f0 : List Int} {f1 : Int} {α : Type} {d : Kd α} {e : Nat} {base : Nat} {ok : Nat → Prop} {v : Value} {xs : List α} (h : IsS107 w0 W g f0 f1) (ho : d.R e W base ok v xs) (ht : ∀ q, q ∈ e :: d.E → q ≠ 107) : d.R e W base (fun k => ok k ∧ k ≠ g) v xs := by
  obtain ⟨A0, c0, hb, hg, hr0⟩ := h
  exact Kd.R_types ho hb ht
theorem IsS107.own_ne {w0 W : World} {g : Nat} {f0 : List Int} {f1 : Int} {α : Type} {d : Kd α} {e : Nat} {base : Nat} {ok : Nat → Prop} {v : Value} {xs : List α} (h : IsS107 w0 W g f0 f1) (ho : d.R e W base ok v xs) (ht : e ≠ 107) : some g ≠ v.ownBlock := by
  obtain ⟨A0, c0, hb, hg, hr0⟩ := h
  exact Kd.R_ne ho hb ht
theorem IsS107.lt {w0 W : World} {g : Nat} {f0 : List Int} {f1 : Int} (h : IsS107 w0 W g f0 f1) : g < W.heap.size := by
  obtain ⟨A0, c0, hb, hg, hr0⟩ := h
  exact blk_lt hb
theorem IsS107.ge {w0 W : World} {g : Nat} {f0 : List Int} {f1 : Int} (h : IsS107 w0 W g f0 f1) : w0.heap.size ≤ g := by
  obtain ⟨A0, c0, hb, hg, hr0⟩ := h
  exact hg
theorem IsS107.ne_blk {w0 W : World} {g : Nat} {f0 : List Int} {f1 : Int} {a : Nat} {cs : Array Value} {t : TypeId} {fr : Nat × Nat} (h : IsS107 w0 W g f0 f1) (hb2 : W.heap[a]? = some (.cells cs t fr)) (ht : t ≠ 107) : g ≠ a := by
  obtain ⟨A0, c0, hb, hg, hr0⟩ := h
  rintro rfl
  rw [hb] at hb2
  injection hb2 with hb2
  injection hb2 with _ ht2
  exact ht ht2.symm
theorem IsS107.far {w0 W : World} {g : Nat} {f0 : List Int} {f1 : Int} {p : Addr} (h : IsS107 w0 W g f0 f1) (hne : g ≠ p.block) (u : Value) : IsS107 w0 (W.setCell p u) g f0 f1 := by
  obtain ⟨A0, c0, hb, hg, hr0⟩ := h
  exact ⟨A0, c0, blk_far hb hne u, hg, hr0⟩
theorem cellS107_0 {W : World} {g : Nat} {A0 : Option Addr} {c0 : Nat} {f0 : List Int} {f1 : Int} (h : W.heap[g]? = some (.cells #[.slice A0 f0.length c0, .int .i64 f1] 107 (0, 0))) : W.cell? ⟨g, 0, none⟩ = some (.slice A0 f0.length c0) := (blk_cell h 0).trans rfl
theorem cellS107_1 {W : World} {g : Nat} {A0 : Option Addr} {c0 : Nat} {f0 : List Int} {f1 : Int} (h : W.heap[g]? = some (.cells #[.slice A0 f0.length c0, .int .i64 f1] 107 (0, 0))) : W.cell? ⟨g, 1, none⟩ = some (.int .i64 f1) := (blk_cell h 1).trans rfl
theorem IsS107.set_1 {w0 W : World} {g : Nat} {f0 : List Int} {f1 : Int} (h : IsS107 w0 W g f0 f1) (x : Int) : IsS107 w0 (W.setCell ⟨g, 1, none⟩ (.int .i64 x)) g f0 x := by
  obtain ⟨A0, c0, hb, hg, hr0⟩ := h
  exact ⟨A0, c0, by simpa using blk_set hb 1 (.int .i64 x), hg, hr0⟩
theorem IsS107.new (w0 W : World) (A0 : Option Addr) (c0 : Nat) (f0 : List Int) (f1 : Int) (hB : Below w0.heap.size w0 W) (hr0 : Kd.C (Kd.int .u8) w0 A0 f0.length f0) : IsS107 w0 (W.alloc (.cells #[.slice A0 f0.length c0, .int .i64 f1] 107)) W.heap.size f0 f1 := ⟨A0, c0, by simpa using heap_alloc_new W _, hB.size, hr0⟩

def spec_l1R_next.f (s0_0 : List Int) (s0_1 : Int) : Option (Int × Int) := if s0_1 ≥ (s0_0.length : Int) then (some (0, s0_1)) else (if 0 ≤ s0_1 then (if s0_1 < (s0_0.length : Int) then (some (wrap64 (rd s0_0 s0_1), wrap64 (s0_1 + 1))) else (none)) else (none))
set_option maxHeartbeats 8000000 in
set_option maxRecDepth 100000 in
theorem spec_l1R_next.calls (g : Nat) (s0_0 : List Int) (s0_1 : Int) (r1 : Int) (r2 : Int) (w0 w : World) (hI : IsS107 w0 w g s0_0 s0_1) (hB : Below w0.heap.size w0 w) (h : spec_l1R_next.f s0_0 s0_1 = some (r1, r2)) :
    Calls Try.prog 70 #[.pointer (some ⟨g, 0, none⟩)] w fun e w' => e = .returned (.int .i64 r1) ∧ IsS107 w0 w' g s0_0 r2 ∧ Below w0.heap.size w0 w' ∧ KeepBut w w' g none := by
  have HI0 := Aside0.mk hI
  have HK := Aside0.mk (KeepBut.refl w g none)
  have HL := Aside0.mk hB.size
  clear hI
  have HW0 := Aside0.mk hB.size
  have HB := Aside0.mk hB
  clear hB
  have H : (if s0_1 ≥ (s0_0.length : Int) then (some (0, s0_1)) else (if 0 ≤ s0_1 then (if s0_1 < (s0_0.length : Int) then (some (wrap64 (rd s0_0 s0_1), wrap64 (s0_1 + 1))) else (none)) else (none))) = some (r1, r2) := h
  clear h
  by_cases c2 : s0_1 ≥ (s0_0.length : Int)
  · rw [if_pos c2] at H
    have c2b0 : decide ((s0_0.length : Int) ≤ s0_1) = true := decide_eq_true c2
    clear c2
    simp only [Option.some.injEq, Prod.mk.injEq] at H
    obtain ⟨rfl, rfl⟩ := H
    obtain ⟨ASz3_0, cSz3_0, HGz3, hgz3, HSz3_0⟩ := HI0.out
    have hcz3_0 := cellS107_0 HGz3
    have hcz3_1 := cellS107_1 HGz3
    have hfz3_1 := blk_frozen HGz3 1
    clear HGz3 hgz3
    go_enter Try.func70, Try.ntmps70
    go_wp2
    repeat (go_quiet (fail); try go_wp2)
    go_ret
    exact ⟨by first | rfl | (simp [errW_none, errW_some] <;> rfl) | (simp [*, errW_none, errW_some] <;> rfl), by repeat (first | (with_reducible first | exact HI0.out | apply IsS107.alloc | apply IsS107.drewN | apply IsS107.drew | apply IsS107.set_1) | exact HI0.out), by repeat (first | (with_reducible first | exact HB.out | apply below_alloc | apply pw_below_drewN | apply below_drew1 | refine below_set ?_ (IsS107.ge HI0.out)) | exact HB.out), by repeat (first | (with_reducible first | exact HK.out | apply KeepBut.set_ | apply keep_drewN | apply keep_drew | apply keep_alloc) | exact HK.out)⟩
  · rw [if_neg c2] at H
    have c2b0 : decide ((s0_0.length : Int) ≤ s0_1) = false := decide_eq_false c2
    clear c2
    by_cases c4 : 0 ≤ s0_1
    · rw [if_pos c4] at H
      have c4b0 : decide (0 ≤ s0_1) = true := decide_eq_true c4
      clear c4
      by_cases c5 : s0_1 < (s0_0.length : Int)
      · rw [if_pos c5] at H
        have c5b0 : decide (s0_1 < (s0_0.length : Int)) = true := decide_eq_true c5
        clear c5
        simp only [Option.some.injEq, Prod.mk.injEq] at H
        obtain ⟨rfl, rfl⟩ := H
        obtain ⟨ASz6_0, cSz6_0, HGz6, hgz6, HSz6_0⟩ := HI0.out
        have hcz6_0 := cellS107_0 HGz6
        have hcz6_1 := cellS107_1 HGz6
        have hfz6_1 := blk_frozen HGz6 1
        clear HGz6 hgz6
        have p113 : 0 ≤ (s0_1 : Int) := of_decide_eq_true (by first | (with_reducible assumption) | assumption)
        have q113 : s0_1 < (s0_0.length : Int) := of_decide_eq_true (by first | (with_reducible assumption) | assumption)
        obtain ⟨ad113, e113, hx113_0⟩ := Kd.at_int HSz6_0 s0_1 p113 q113
        cases e113
        replace hx113_0 := pw_cell_below HB.out hx113_0
        replace p113 := eq_true p113
        replace q113 := eq_true q113
        go_enter Try.func70, Try.ntmps70
        go_wp2
        repeat (go_quiet (fail); try go_wp2)
        go_ret
        exact ⟨by first | rfl | (simp [errW_none, errW_some] <;> rfl) | (simp [*, errW_none, errW_some] <;> rfl), by repeat (first | (with_reducible first | exact HI0.out | apply IsS107.alloc | apply IsS107.drewN | apply IsS107.drew | apply IsS107.set_1) | exact HI0.out), by repeat (first | (with_reducible first | exact HB.out | apply below_alloc | apply pw_below_drewN | apply below_drew1 | refine below_set ?_ (IsS107.ge HI0.out)) | exact HB.out), by repeat (first | (with_reducible first | exact HK.out | apply KeepBut.set_ | apply keep_drewN | apply keep_drew | apply keep_alloc) | exact HK.out)⟩
      · rw [if_neg c5] at H
        exact absurd H (by simp)
    · rw [if_neg c4] at H
      exact absurd H (by simp)

def spec_l4Text.l0 : Nat → Int → List Int → List Int → Int → Option (ByteArray × Int)
  | 0, _, _, _, _ => none
  | k + 1, x1, x5, x1000, x1001 => if x1 > 0 then ((spec_l1R_next.f x1000 x1001).bind fun bt114 => (if x5.length < 140737488355328 then (spec_l4Text.l0 k (wrap64 (x1 - 1)) (x5 ++ [(wrap64 (48 + (Int.tmod bt114.1 10))) % 256]) x1000 bt114.2) else (none))) else (some (strOfNums x5, x1001))
def spec_l4Text.f (k : Nat) (s0_0 : List Int) (s0_1 : Int) (a1 : Int) : Option (ByteArray × Int) := spec_l4Text.l0 k a1 ([] : List Int) s0_0 s0_1
set_option maxHeartbeats 8000000 in
set_option maxRecDepth 100000 in
theorem spec_l4Text.calls (k : Nat) (g : Nat) (s0_0 : List Int) (s0_1 : Int) (a1 : Int) (r1 : ByteArray) (r2 : Int) (w0 w : World) (hI : IsS107 w0 w g s0_0 s0_1) (hB : Below w0.heap.size w0 w) (h : spec_l4Text.f k s0_0 s0_1 a1 = some (r1, r2)) :
    Calls Try.prog 102 #[.pointer (some ⟨g, 0, none⟩), .int .i64 a1] w fun e w' => e = .returned (.string r1) ∧ IsS107 w0 w' g s0_0 r2 ∧ Below w0.heap.size w0 w' ∧ KeepBut w w' g none := by
  have HI0 := Aside0.mk hI
  have HK := Aside0.mk (KeepBut.refl w g none)
  have HL := Aside0.mk hB.size
  clear hI
  have HW0 := Aside0.mk hB.size
  have HB := Aside0.mk hB
  clear hB
  have H : (spec_l4Text.l0 k a1 ([] : List Int) s0_0 s0_1) = some (r1, r2) := h
  clear h
  have H' := Aside0.mk H
  clear H
  go_enter Try.func102, Try.ntmps102
  go_wp2
  go_loopg [1, 5] k (fun kq v1 v5 w' => ∃ (x1_1 : Int) (x5_1 : List Int) (x1001_1 : Int), v1 = .int .i64 x1_1 ∧ Aside0 (spec_l4Text.l0 kq x1_1 x5_1 s0_0 x1001_1 = some (r1, r2)) ∧ Aside0 (kq ≤ k) ∧ Aside0 (Kd.R (Kd.int .u8) 5 w' w.heap.size (fun _ => True) v5 x5_1) ∧ Aside0 (IsS107 w0 w' g s0_0 x1001_1) ∧ Aside0 (KeepBut w w' g none) ∧ Aside0 (Below w0.heap.size w0 w'))
  case atStart => exact ⟨(a1), (([] : List Int)), (s0_1), (by first | rfl | (simp; done) | (simp [*]; done)), H', ⟨Nat.le_refl _⟩, ⟨by first | exact Kd.R_nil _ _ _ _ _ | exact Kd.N_nil _ _ _ _ _ | exact Kd.V_nil _ _ _ _ _ | exact Kd.Q_nil _ _ _ _ _ | exact Kd.S_nil _ _ _ _ _⟩, ⟨by repeat (first | (with_reducible first | exact HI0.out | apply IsS107.alloc | apply IsS107.drewN | apply IsS107.drew | apply IsS107.set_1) | exact HI0.out)⟩, ⟨by repeat (first | (with_reducible first | exact HK.out | apply KeepBut.set_ | apply keep_drewN | apply keep_drew | apply keep_alloc) | exact HK.out)⟩, ⟨by repeat (first | (with_reducible first | exact HB.out | apply below_alloc | apply pw_below_drewN | apply below_drew1 | refine below_set ?_ (IsS107.ge HI0.out)) | exact HB.out)⟩⟩
  case round =>
    clear H'
    try clear c1
    try clear p2
    obtain ⟨x1_1, x5_1, x1001_1, rfl, HA, HK1, HO_5, HI0, HK, HB⟩ := hrel
    cases gk with
    | zero => exact absurd HA.out (by simp [spec_l4Text.l0])
    | succ k1 =>
      have H := HA.out
      clear HA
      simp only [spec_l4Text.l0] at H
      by_cases c3 : x1_1 > 0
      · rw [if_pos c3] at H
        have c3b0 : decide (0 < x1_1) = true := decide_eq_true c3
        clear c3
        replace H := Option.bind_eq_some_iff.mp H
        obtain ⟨⟨t114, t115⟩, A40, H⟩ := H
        replace H : (if x5_1.length < 140737488355328 then (spec_l4Text.l0 k1 (wrap64 (x1_1 - 1)) (x5_1 ++ [(wrap64 (48 + (Int.tmod t114 10))) % 256]) s0_0 t115) else (none)) = some (r1, r2) := H
        have A4 := Aside0.mk A40
        clear A40
        by_cases c5 : x5_1.length < 140737488355328
        · rw [if_pos c5] at H
          have LMc5 := Aside0.mk c5
          clear c5
          obtain ⟨y116, hy116⟩ : ∃ y_ : List Int, y_ = (x5_1 ++ [(wrap64 (48 + (Int.tmod t114 10))) % 256]) := ⟨_, rfl⟩
          replace H : (spec_l4Text.l0 k1 (wrap64 (x1_1 - 1)) y116 s0_0 t115) = some (r1, r2) := by first | (rw [hy116]; with_reducible exact H) | (have H2_ := (Option.bind_some _ _).symm.trans H; rw [hy116]; with_reducible exact H2_) | (have H2_ := (Option.bind_some _ _).symm.trans H; with_reducible exact H2_) | with_reducible exact H | (rw [hy116]; exact H) | exact H
          have Ny116 := Aside0.mk hy116
          clear hy116
          have H' := Aside0.mk H
          clear H
          go_wp2_with (first | ((with_reducible refine gate_callee (f := 70) rfl ?_); refine goesL_ (some 12) rfl rfl Try.func70 (by kernel_rfl) rfl #[.pointer (some ⟨g, 0, none⟩)] rfl (by (try simp only [List.map_toArray, List.map_cons, List.map_nil]); first | done | rfl | (simp only [List.length_drop, List.length_take]; rfl)) ?_; (with_reducible refine (spec_l1R_next.calls g s0_0 x1001_1 t114 t115 w0 _ ?side1 ?side2 A4.out).mono ?_); (case side1 => repeat (first | (with_reducible first | exact HI0.out | apply IsS107.alloc | apply IsS107.drewN | apply IsS107.drew | apply IsS107.set_1) | exact HI0.out)); (case side2 => repeat (first | (with_reducible first | exact HB.out | apply below_alloc | apply pw_below_drewN | apply below_drew1 | refine below_set ?_ (IsS107.ge HI0.out)) | exact HB.out)); rintro e w6 ⟨rfl, hi, hb, hk⟩; refine ⟨_, rfl, ?_⟩; have n0_ := Aside0.mk (Kd.R_mono (Kd.R_keep (IsS107.apart (show IsS107 w0 _ g s0_0 x1001_1 from by repeat (first | (with_reducible first | exact HI0.out | apply IsS107.alloc | apply IsS107.drewN | apply IsS107.drew | apply IsS107.set_1) | exact HI0.out)) (by (with_reducible repeat (first | apply Kd.R_alloc | apply Kd.R_drewN | apply Kd.R_drew)); exact HO_5.out) (by decide)) hk (fun _ h => h.2)) (fun _ h => h.1)); have n1_ := Aside0.mk (KeepBut.trans (by repeat (first | (with_reducible first | exact HK.out | apply KeepBut.set_ | apply keep_drewN | apply keep_drew | apply keep_alloc) | exact HK.out)) hk (.inl rfl)); have n2_ := Aside0.mk (hb); have n3_ := Aside0.mk (hi); clear HO_5; clear HK; clear HB; clear HI0; have HO_5 := n0_; have HK := n1_; have HB := n2_; have HI0 := n3_; clear n0_ n1_ n2_ n3_; (try clear hb); (try clear hb2); (try clear hk); (try clear hi)) | ((with_reducible refine gate_builtin (b := .append) (xs := #[.tmp 10, .tmp 16]) rfl ?_); at_builtin; refine Kd.R_append (Kd.int .u8) w.heap.size rfl (.tmp 10) (.tmp 16) 29 5 (.int .u8 0) 1 rfl Try.underlying29 info5 rfl (by decide) (by omega) u5 x5_1 ((wrap64 (48 + (Int.tmod t114 10))) % 256) [.int .u8 ((wrap64 (48 + (Int.tmod t114 10))) % 256)] (fun _ => True) (fun _ => False) rfl rfl ?aP (fun _ hk => hk.elim) ?aF ?aO (Below.refl _ _) ?aS ?aL ?_; (case aP => exact rfl); (case aF => exact (fun _ _ => trivial)); (case aO => exact (by (with_reducible repeat (first | apply Kd.R_alloc | apply Kd.R_drewN | apply Kd.R_drew)); exact HO_5.out)); (case aS => exact (keep_size (w := w) (g := g) (row := none) (by repeat (first | (with_reducible first | exact HK.out | apply KeepBut.set_ | apply keep_drewN | apply keep_drew | apply keep_alloc) | exact HK.out)))); (case aL => have := LMc5.out; omega); intro v117 w7 ho hb hg hat; rw [← Ny116.out] at ho; have n0_ := Aside0.mk (IsS107.grown (by repeat (first | (with_reducible first | exact HI0.out | apply IsS107.alloc | apply IsS107.drewN | apply IsS107.drew | apply IsS107.set_1) | exact HI0.out)) hg (IsS107.own_ne HI0.out HO_5.out (by decide))); have n1_ := Aside0.mk (below_weaken (by repeat (first | (with_reducible first | exact HB.out | apply below_alloc | apply pw_below_drewN | apply below_drew1 | refine below_set ?_ (IsS107.ge HI0.out)) | exact HB.out)) HL.out hb); have n2_ := Aside0.mk (KeepBut.trans (by repeat (first | (with_reducible first | exact HK.out | apply KeepBut.set_ | apply keep_drewN | apply keep_drew | apply keep_alloc) | exact HK.out)) (KeepBut.of_grown hg g) (Kd.R_base2 HO_5.out)); have n3_ := Aside0.mk (ho); clear HI0; clear HB; clear HK; clear HO_5; have HI0 := n0_; have HB := n1_; have HK := n2_; have HO118 := n3_; clear n0_ n1_ n2_ n3_; clear ho hb hg hat))
          go_roundg k1
          case measure => have := HK1.out; omega
          case rel => exact ⟨(wrap64 (x1_1 - 1)), (y116), (t115), (by first | rfl | (simp; done) | (simp [*]; done)), H', ⟨by have := HK1.out; omega⟩, ⟨by (with_reducible repeat (first | apply Kd.R_alloc | apply Kd.R_drewN | apply Kd.R_drew)); exact HO118.out⟩, ⟨by repeat (first | (with_reducible first | exact HI0.out | apply IsS107.alloc | apply IsS107.drewN | apply IsS107.drew | apply IsS107.set_1) | exact HI0.out)⟩, ⟨by repeat (first | (with_reducible first | exact HK.out | apply KeepBut.set_ | apply keep_drewN | apply keep_drew | apply keep_alloc) | exact HK.out)⟩, ⟨by repeat (first | (with_reducible first | exact HB.out | apply below_alloc | apply pw_below_drewN | apply below_drew1 | refine below_set ?_ (IsS107.ge HI0.out)) | exact HB.out)⟩⟩
        · rw [if_neg c5] at H
          exact absurd H (by simp)
      · rw [if_neg c3] at H
        have c3b0 : decide (0 < x1_1) = false := decide_eq_false c3
        clear c3
        simp only [Option.some.injEq, Prod.mk.injEq] at H
        obtain ⟨rfl, rfl⟩ := H
        have hcv8 := own_string (P := Try.prog) Try.underlying29 Try.underlying5 Try.underlying9 (Kd.own_of_R HO_5.out)
        go_wp2
        go_ret
        exact ⟨by first | rfl | (simp [errW_none, errW_some] <;> rfl) | (simp [*, errW_none, errW_some] <;> rfl), by repeat (first | (with_reducible first | exact HI0.out | apply IsS107.alloc | apply IsS107.drewN | apply IsS107.drew | apply IsS107.set_1) | exact HI0.out), by repeat (first | (with_reducible first | exact HB.out | apply below_alloc | apply pw_below_drewN | apply below_drew1 | refine below_set ?_ (IsS107.ge HI0.out)) | exact HB.out), by repeat (first | (with_reducible first | exact HK.out | apply KeepBut.set_ | apply keep_drewN | apply keep_drew | apply keep_alloc) | exact HK.out)⟩

def spec_l4Pin.f (k : Nat) (s0_0 : List Int) (s0_1 : Int) : Option (ByteArray × Int) := (spec_l1R_next.f s0_0 s0_1).bind fun bt119 => ((spec_l4Text.f k s0_0 bt119.2 (wrap64 (4 + (Int.tmod bt119.1 9)))).bind fun bt121 => (some (bt121.1, bt121.2)))
set_option maxHeartbeats 8000000 in
set_option maxRecDepth 100000 in
theorem spec_l4Pin.calls (k : Nat) (g : Nat) (s0_0 : List Int) (s0_1 : Int) (r1 : ByteArray) (r2 : Int) (w0 w : World) (hI : IsS107 w0 w g s0_0 s0_1) (hB : Below w0.heap.size w0 w) (h : spec_l4Pin.f k s0_0 s0_1 = some (r1, r2)) :
    Calls Try.prog 84 #[.pointer (some ⟨g, 0, none⟩)] w fun e w' => e = .returned (.string r1) ∧ IsS107 w0 w' g s0_0 r2 ∧ Below w0.heap.size w0 w' ∧ KeepBut w w' g none := by
  have HI0 := Aside0.mk hI
  have HK := Aside0.mk (KeepBut.refl w g none)
  have HL := Aside0.mk hB.size
  clear hI
  have HW0 := Aside0.mk hB.size
  have HB := Aside0.mk hB
  clear hB
  have H : ((spec_l1R_next.f s0_0 s0_1).bind fun bt119 => ((spec_l4Text.f k s0_0 bt119.2 (wrap64 (4 + (Int.tmod bt119.1 9)))).bind fun bt121 => (some (bt121.1, bt121.2)))) = some (r1, r2) := h
  clear h
  replace H := Option.bind_eq_some_iff.mp H
  obtain ⟨⟨t119, t120⟩, A20, H⟩ := H
  replace H : ((spec_l4Text.f k s0_0 t120 (wrap64 (4 + (Int.tmod t119 9)))).bind fun bt121 => (some (bt121.1, bt121.2))) = some (r1, r2) := H
  have A2 := Aside0.mk A20
  clear A20
  replace H := Option.bind_eq_some_iff.mp H
  obtain ⟨⟨t121, t122⟩, A30, H⟩ := H
  replace H : (some (t121, t122)) = some (r1, r2) := H
  have A3 := Aside0.mk A30
  clear A30
  simp only [Option.some.injEq, Prod.mk.injEq] at H
  obtain ⟨rfl, rfl⟩ := H
  go_enter Try.func84, Try.ntmps84
  go_wp2_with (first | ((with_reducible refine gate_callee (f := 70) rfl ?_); refine goesL_ (some 5) rfl rfl Try.func70 (by kernel_rfl) rfl #[.pointer (some ⟨g, 0, none⟩)] rfl (by (try simp only [List.map_toArray, List.map_cons, List.map_nil]); first | done | rfl | (simp only [List.length_drop, List.length_take]; rfl)) ?_; (with_reducible refine (spec_l1R_next.calls g s0_0 s0_1 t119 t120 w0 _ ?side1 ?side2 A2.out).mono ?_); (case side1 => repeat (first | (with_reducible first | exact HI0.out | apply IsS107.alloc | apply IsS107.drewN | apply IsS107.drew | apply IsS107.set_1) | exact HI0.out)); (case side2 => repeat (first | (with_reducible first | exact HB.out | apply below_alloc | apply pw_below_drewN | apply below_drew1 | refine below_set ?_ (IsS107.ge HI0.out)) | exact HB.out)); rintro e w4 ⟨rfl, hi, hb, hk⟩; refine ⟨_, rfl, ?_⟩; have n0_ := Aside0.mk (KeepBut.trans (by repeat (first | (with_reducible first | exact HK.out | apply KeepBut.set_ | apply keep_drewN | apply keep_drew | apply keep_alloc) | exact HK.out)) hk (.inl rfl)); have n1_ := Aside0.mk (hb); have n2_ := Aside0.mk (hi); clear HK; clear HB; clear HI0; have HK := n0_; have HB := n1_; have HI0 := n2_; clear n0_ n1_ n2_; (try clear hb); (try clear hb2); (try clear hk); (try clear hi)) | ((with_reducible refine gate_callee (f := 102) rfl ?_); refine goesL_ (some 8) rfl rfl Try.func102 (by kernel_rfl) rfl #[.pointer (some ⟨g, 0, none⟩), .int .i64 (wrap64 (4 + (Int.tmod t119 9)))] rfl (by (try simp only [List.map_toArray, List.map_cons, List.map_nil]); first | done | rfl | (simp only [List.length_drop, List.length_take]; rfl)) ?_; (with_reducible refine (spec_l4Text.calls k g s0_0 t120 (wrap64 (4 + (Int.tmod t119 9))) t121 t122 w0 _ ?side1 ?side2 A3.out).mono ?_); (case side1 => repeat (first | (with_reducible first | exact HI0.out | apply IsS107.alloc | apply IsS107.drewN | apply IsS107.drew | apply IsS107.set_1) | exact HI0.out)); (case side2 => repeat (first | (with_reducible first | exact HB.out | apply below_alloc | apply pw_below_drewN | apply below_drew1 | refine below_set ?_ (IsS107.ge HI0.out)) | exact HB.out)); rintro e w5 ⟨rfl, hi, hb, hk⟩; refine ⟨_, rfl, ?_⟩; have n0_ := Aside0.mk (KeepBut.trans (by repeat (first | (with_reducible first | exact HK.out | apply KeepBut.set_ | apply keep_drewN | apply keep_drew | apply keep_alloc) | exact HK.out)) hk (.inl rfl)); have n1_ := Aside0.mk (hb); have n2_ := Aside0.mk (hi); clear HK; clear HB; clear HI0; have HK := n0_; have HB := n1_; have HI0 := n2_; clear n0_ n1_ n2_; (try clear hb); (try clear hb2); (try clear hk); (try clear hi)))
  go_ret
  exact ⟨by first | rfl | (simp [errW_none, errW_some] <;> rfl) | (simp [*, errW_none, errW_some] <;> rfl), by repeat (first | (with_reducible first | exact HI0.out | apply IsS107.alloc | apply IsS107.drewN | apply IsS107.drew | apply IsS107.set_1) | exact HI0.out), by repeat (first | (with_reducible first | exact HB.out | apply below_alloc | apply pw_below_drewN | apply below_drew1 | refine below_set ?_ (IsS107.ge HI0.out)) | exact HB.out), by repeat (first | (with_reducible first | exact HK.out | apply KeepBut.set_ | apply keep_drewN | apply keep_drew | apply keep_alloc) | exact HK.out)⟩

def spec_l4Format.f (s0_0 : List Int) (s0_1 : Int) : Option (Int × Int) := (spec_l1R_next.f s0_0 s0_1).bind fun bt123 => (some (wrap64 ((Int.tmod bt123.1 2) * 3), bt123.2))
set_option maxHeartbeats 8000000 in
set_option maxRecDepth 100000 in
theorem spec_l4Format.calls (g : Nat) (s0_0 : List Int) (s0_1 : Int) (r1 : Int) (r2 : Int) (w0 w : World) (hI : IsS107 w0 w g s0_0 s0_1) (hB : Below w0.heap.size w0 w) (h : spec_l4Format.f s0_0 s0_1 = some (r1, r2)) :
    Calls Try.prog 85 #[.pointer (some ⟨g, 0, none⟩)] w fun e w' => e = .returned (.int .i64 r1) ∧ IsS107 w0 w' g s0_0 r2 ∧ Below w0.heap.size w0 w' ∧ KeepBut w w' g none := by
  have HI0 := Aside0.mk hI
  have HK := Aside0.mk (KeepBut.refl w g none)
  have HL := Aside0.mk hB.size
  clear hI
  have HW0 := Aside0.mk hB.size
  have HB := Aside0.mk hB
  clear hB
  have H : ((spec_l1R_next.f s0_0 s0_1).bind fun bt123 => (some (wrap64 ((Int.tmod bt123.1 2) * 3), bt123.2))) = some (r1, r2) := h
  clear h
  replace H := Option.bind_eq_some_iff.mp H
  obtain ⟨⟨t123, t124⟩, A20, H⟩ := H
  replace H : (some (wrap64 ((Int.tmod t123 2) * 3), t124)) = some (r1, r2) := H
  have A2 := Aside0.mk A20
  clear A20
  simp only [Option.some.injEq, Prod.mk.injEq] at H
  obtain ⟨rfl, rfl⟩ := H
  go_enter Try.func85, Try.ntmps85
  go_wp2_with (first | ((with_reducible refine gate_callee (f := 70) rfl ?_); refine goesL_ (some 4) rfl rfl Try.func70 (by kernel_rfl) rfl #[.pointer (some ⟨g, 0, none⟩)] rfl (by (try simp only [List.map_toArray, List.map_cons, List.map_nil]); first | done | rfl | (simp only [List.length_drop, List.length_take]; rfl)) ?_; (with_reducible refine (spec_l1R_next.calls g s0_0 s0_1 t123 t124 w0 _ ?side1 ?side2 A2.out).mono ?_); (case side1 => repeat (first | (with_reducible first | exact HI0.out | apply IsS107.alloc | apply IsS107.drewN | apply IsS107.drew | apply IsS107.set_1) | exact HI0.out)); (case side2 => repeat (first | (with_reducible first | exact HB.out | apply below_alloc | apply pw_below_drewN | apply below_drew1 | refine below_set ?_ (IsS107.ge HI0.out)) | exact HB.out)); rintro e w3 ⟨rfl, hi, hb, hk⟩; refine ⟨_, rfl, ?_⟩; have n0_ := Aside0.mk (KeepBut.trans (by repeat (first | (with_reducible first | exact HK.out | apply KeepBut.set_ | apply keep_drewN | apply keep_drew | apply keep_alloc) | exact HK.out)) hk (.inl rfl)); have n1_ := Aside0.mk (hb); have n2_ := Aside0.mk (hi); clear HK; clear HB; clear HI0; have HK := n0_; have HB := n1_; have HI0 := n2_; clear n0_ n1_ n2_; (try clear hb); (try clear hb2); (try clear hk); (try clear hi)))
  go_ret
  exact ⟨by first | rfl | (simp [errW_none, errW_some] <;> rfl) | (simp [*, errW_none, errW_some] <;> rfl), by repeat (first | (with_reducible first | exact HI0.out | apply IsS107.alloc | apply IsS107.drewN | apply IsS107.drew | apply IsS107.set_1) | exact HI0.out), by repeat (first | (with_reducible first | exact HB.out | apply below_alloc | apply pw_below_drewN | apply below_drew1 | refine below_set ?_ (IsS107.ge HI0.out)) | exact HB.out), by repeat (first | (with_reducible first | exact HK.out | apply KeepBut.set_ | apply keep_drewN | apply keep_drew | apply keep_alloc) | exact HK.out)⟩

def spec_l4Pan.f (k : Nat) (s0_0 : List Int) (s0_1 : Int) : Option (ByteArray × Int) := (spec_l1R_next.f s0_0 s0_1).bind fun bt125 => ((spec_l4Text.f k s0_0 bt125.2 (wrap64 (13 + (Int.tmod bt125.1 7)))).bind fun bt127 => (some (bt127.1, bt127.2)))
set_option maxHeartbeats 8000000 in
set_option maxRecDepth 100000 in
theorem spec_l4Pan.calls (k : Nat) (g : Nat) (s0_0 : List Int) (s0_1 : Int) (r1 : ByteArray) (r2 : Int) (w0 w : World) (hI : IsS107 w0 w g s0_0 s0_1) (hB : Below w0.heap.size w0 w) (h : spec_l4Pan.f k s0_0 s0_1 = some (r1, r2)) :
    Calls Try.prog 86 #[.pointer (some ⟨g, 0, none⟩)] w fun e w' => e = .returned (.string r1) ∧ IsS107 w0 w' g s0_0 r2 ∧ Below w0.heap.size w0 w' ∧ KeepBut w w' g none := by
  have HI0 := Aside0.mk hI
  have HK := Aside0.mk (KeepBut.refl w g none)
  have HL := Aside0.mk hB.size
  clear hI
  have HW0 := Aside0.mk hB.size
  have HB := Aside0.mk hB
  clear hB
  have H : ((spec_l1R_next.f s0_0 s0_1).bind fun bt125 => ((spec_l4Text.f k s0_0 bt125.2 (wrap64 (13 + (Int.tmod bt125.1 7)))).bind fun bt127 => (some (bt127.1, bt127.2)))) = some (r1, r2) := h
  clear h
  replace H := Option.bind_eq_some_iff.mp H
  obtain ⟨⟨t125, t126⟩, A20, H⟩ := H
  replace H : ((spec_l4Text.f k s0_0 t126 (wrap64 (13 + (Int.tmod t125 7)))).bind fun bt127 => (some (bt127.1, bt127.2))) = some (r1, r2) := H
  have A2 := Aside0.mk A20
  clear A20
  replace H := Option.bind_eq_some_iff.mp H
  obtain ⟨⟨t127, t128⟩, A30, H⟩ := H
  replace H : (some (t127, t128)) = some (r1, r2) := H
  have A3 := Aside0.mk A30
  clear A30
  simp only [Option.some.injEq, Prod.mk.injEq] at H
  obtain ⟨rfl, rfl⟩ := H
  go_enter Try.func86, Try.ntmps86
  go_wp2_with (first | ((with_reducible refine gate_callee (f := 70) rfl ?_); refine goesL_ (some 5) rfl rfl Try.func70 (by kernel_rfl) rfl #[.pointer (some ⟨g, 0, none⟩)] rfl (by (try simp only [List.map_toArray, List.map_cons, List.map_nil]); first | done | rfl | (simp only [List.length_drop, List.length_take]; rfl)) ?_; (with_reducible refine (spec_l1R_next.calls g s0_0 s0_1 t125 t126 w0 _ ?side1 ?side2 A2.out).mono ?_); (case side1 => repeat (first | (with_reducible first | exact HI0.out | apply IsS107.alloc | apply IsS107.drewN | apply IsS107.drew | apply IsS107.set_1) | exact HI0.out)); (case side2 => repeat (first | (with_reducible first | exact HB.out | apply below_alloc | apply pw_below_drewN | apply below_drew1 | refine below_set ?_ (IsS107.ge HI0.out)) | exact HB.out)); rintro e w4 ⟨rfl, hi, hb, hk⟩; refine ⟨_, rfl, ?_⟩; have n0_ := Aside0.mk (KeepBut.trans (by repeat (first | (with_reducible first | exact HK.out | apply KeepBut.set_ | apply keep_drewN | apply keep_drew | apply keep_alloc) | exact HK.out)) hk (.inl rfl)); have n1_ := Aside0.mk (hb); have n2_ := Aside0.mk (hi); clear HK; clear HB; clear HI0; have HK := n0_; have HB := n1_; have HI0 := n2_; clear n0_ n1_ n2_; (try clear hb); (try clear hb2); (try clear hk); (try clear hi)) | ((with_reducible refine gate_callee (f := 102) rfl ?_); refine goesL_ (some 8) rfl rfl Try.func102 (by kernel_rfl) rfl #[.pointer (some ⟨g, 0, none⟩), .int .i64 (wrap64 (13 + (Int.tmod t125 7)))] rfl (by (try simp only [List.map_toArray, List.map_cons, List.map_nil]); first | done | rfl | (simp only [List.length_drop, List.length_take]; rfl)) ?_; (with_reducible refine (spec_l4Text.calls k g s0_0 t126 (wrap64 (13 + (Int.tmod t125 7))) t127 t128 w0 _ ?side1 ?side2 A3.out).mono ?_); (case side1 => repeat (first | (with_reducible first | exact HI0.out | apply IsS107.alloc | apply IsS107.drewN | apply IsS107.drew | apply IsS107.set_1) | exact HI0.out)); (case side2 => repeat (first | (with_reducible first | exact HB.out | apply below_alloc | apply pw_below_drewN | apply below_drew1 | refine below_set ?_ (IsS107.ge HI0.out)) | exact HB.out)); rintro e w5 ⟨rfl, hi, hb, hk⟩; refine ⟨_, rfl, ?_⟩; have n0_ := Aside0.mk (KeepBut.trans (by repeat (first | (with_reducible first | exact HK.out | apply KeepBut.set_ | apply keep_drewN | apply keep_drew | apply keep_alloc) | exact HK.out)) hk (.inl rfl)); have n1_ := Aside0.mk (hb); have n2_ := Aside0.mk (hi); clear HK; clear HB; clear HI0; have HK := n0_; have HB := n1_; have HI0 := n2_; clear n0_ n1_ n2_; (try clear hb); (try clear hb2); (try clear hk); (try clear hi)))
  go_ret
  exact ⟨by first | rfl | (simp [errW_none, errW_some] <;> rfl) | (simp [*, errW_none, errW_some] <;> rfl), by repeat (first | (with_reducible first | exact HI0.out | apply IsS107.alloc | apply IsS107.drewN | apply IsS107.drew | apply IsS107.set_1) | exact HI0.out), by repeat (first | (with_reducible first | exact HB.out | apply below_alloc | apply pw_below_drewN | apply below_drew1 | refine below_set ?_ (IsS107.ge HI0.out)) | exact HB.out), by repeat (first | (with_reducible first | exact HK.out | apply KeepBut.set_ | apply keep_drewN | apply keep_drew | apply keep_alloc) | exact HK.out)⟩

def spec_l1Some.l0 : Nat → Int → List Int → List Int → Int → Option (List Int × Int)
  | 0, _, _, _, _ => none
  | k + 1, x1, x5, x1000, x1001 => if x1 > 0 then ((spec_l1R_next.f x1000 x1001).bind fun bt129 => (if x5.length < 140737488355328 then (spec_l1Some.l0 k (wrap64 (x1 - 1)) (x5 ++ [(bt129.1) % 256]) x1000 bt129.2) else (none))) else (some (x5, x1001))
def spec_l1Some.f (k : Nat) (s0_0 : List Int) (s0_1 : Int) (a1 : Int) : Option (List Int × Int) := spec_l1Some.l0 k a1 ([] : List Int) s0_0 s0_1
set_option maxHeartbeats 8000000 in
set_option maxRecDepth 100000 in
theorem spec_l1Some.calls (k : Nat) (g : Nat) (s0_0 : List Int) (s0_1 : Int) (a1 : Int) (r1 : List Int) (r2 : Int) (w0 w : World) (hI : IsS107 w0 w g s0_0 s0_1) (hB : Below w0.heap.size w0 w) (h : spec_l1Some.f k s0_0 s0_1 a1 = some (r1, r2)) :
    Calls Try.prog 93 #[.pointer (some ⟨g, 0, none⟩), .int .i64 a1] w fun e w' => ∃ v0_ : Value, e = .returned (v0_) ∧ Kd.R (Kd.int .u8) 5 w' w.heap.size (fun _ => True) v0_ r1 ∧ IsS107 w0 w' g s0_0 r2 ∧ Below w0.heap.size w0 w' ∧ KeepBut w w' g none := by
  have HI0 := Aside0.mk hI
  have HK := Aside0.mk (KeepBut.refl w g none)
  have HL := Aside0.mk hB.size
  clear hI
  have HW0 := Aside0.mk hB.size
  have HB := Aside0.mk hB
  clear hB
  have H : (spec_l1Some.l0 k a1 ([] : List Int) s0_0 s0_1) = some (r1, r2) := h
  clear h
  have H' := Aside0.mk H
  clear H
  go_enter Try.func93, Try.ntmps93
  go_wp2
  go_loopg [1, 5] k (fun kq v1 v5 w' => ∃ (x1_1 : Int) (x5_1 : List Int) (x1001_1 : Int), v1 = .int .i64 x1_1 ∧ Aside0 (spec_l1Some.l0 kq x1_1 x5_1 s0_0 x1001_1 = some (r1, r2)) ∧ Aside0 (kq ≤ k) ∧ Aside0 (Kd.R (Kd.int .u8) 5 w' w.heap.size (fun _ => True) v5 x5_1) ∧ Aside0 (IsS107 w0 w' g s0_0 x1001_1) ∧ Aside0 (KeepBut w w' g none) ∧ Aside0 (Below w0.heap.size w0 w'))
  case atStart => exact ⟨(a1), (([] : List Int)), (s0_1), (by first | rfl | (simp; done) | (simp [*]; done)), H', ⟨Nat.le_refl _⟩, ⟨by first | exact Kd.R_nil _ _ _ _ _ | exact Kd.N_nil _ _ _ _ _ | exact Kd.V_nil _ _ _ _ _ | exact Kd.Q_nil _ _ _ _ _ | exact Kd.S_nil _ _ _ _ _⟩, ⟨by repeat (first | (with_reducible first | exact HI0.out | apply IsS107.alloc | apply IsS107.drewN | apply IsS107.drew | apply IsS107.set_1) | exact HI0.out)⟩, ⟨by repeat (first | (with_reducible first | exact HK.out | apply KeepBut.set_ | apply keep_drewN | apply keep_drew | apply keep_alloc) | exact HK.out)⟩, ⟨by repeat (first | (with_reducible first | exact HB.out | apply below_alloc | apply pw_below_drewN | apply below_drew1 | refine below_set ?_ (IsS107.ge HI0.out)) | exact HB.out)⟩⟩
  case round =>
    clear H'
    try clear p2
    obtain ⟨x1_1, x5_1, x1001_1, rfl, HA, HK1, HO_5, HI0, HK, HB⟩ := hrel
    cases gk with
    | zero => exact absurd HA.out (by simp [spec_l1Some.l0])
    | succ k1 =>
      have H := HA.out
      clear HA
      simp only [spec_l1Some.l0] at H
      by_cases c3 : x1_1 > 0
      · rw [if_pos c3] at H
        have c3b0 : decide (0 < x1_1) = true := decide_eq_true c3
        clear c3
        replace H := Option.bind_eq_some_iff.mp H
        obtain ⟨⟨t129, t130⟩, A40, H⟩ := H
        replace H : (if x5_1.length < 140737488355328 then (spec_l1Some.l0 k1 (wrap64 (x1_1 - 1)) (x5_1 ++ [(t129) % 256]) s0_0 t130) else (none)) = some (r1, r2) := H
        have A4 := Aside0.mk A40
        clear A40
        by_cases c5 : x5_1.length < 140737488355328
        · rw [if_pos c5] at H
          have LMc5 := Aside0.mk c5
          clear c5
          obtain ⟨y131, hy131⟩ : ∃ y_ : List Int, y_ = (x5_1 ++ [(t129) % 256]) := ⟨_, rfl⟩
          replace H : (spec_l1Some.l0 k1 (wrap64 (x1_1 - 1)) y131 s0_0 t130) = some (r1, r2) := by first | (rw [hy131]; with_reducible exact H) | (have H2_ := (Option.bind_some _ _).symm.trans H; rw [hy131]; with_reducible exact H2_) | (have H2_ := (Option.bind_some _ _).symm.trans H; with_reducible exact H2_) | with_reducible exact H | (rw [hy131]; exact H) | exact H
          have Ny131 := Aside0.mk hy131
          clear hy131
          have H' := Aside0.mk H
          clear H
          go_wp2_with (first | ((with_reducible refine gate_callee (f := 70) rfl ?_); refine goesL_ (some 12) rfl rfl Try.func70 (by kernel_rfl) rfl #[.pointer (some ⟨g, 0, none⟩)] rfl (by (try simp only [List.map_toArray, List.map_cons, List.map_nil]); first | done | rfl | (simp only [List.length_drop, List.length_take]; rfl)) ?_; (with_reducible refine (spec_l1R_next.calls g s0_0 x1001_1 t129 t130 w0 _ ?side1 ?side2 A4.out).mono ?_); (case side1 => repeat (first | (with_reducible first | exact HI0.out | apply IsS107.alloc | apply IsS107.drewN | apply IsS107.drew | apply IsS107.set_1) | exact HI0.out)); (case side2 => repeat (first | (with_reducible first | exact HB.out | apply below_alloc | apply pw_below_drewN | apply below_drew1 | refine below_set ?_ (IsS107.ge HI0.out)) | exact HB.out)); rintro e w6 ⟨rfl, hi, hb, hk⟩; refine ⟨_, rfl, ?_⟩; have n0_ := Aside0.mk (Kd.R_mono (Kd.R_keep (IsS107.apart (show IsS107 w0 _ g s0_0 x1001_1 from by repeat (first | (with_reducible first | exact HI0.out | apply IsS107.alloc | apply IsS107.drewN | apply IsS107.drew | apply IsS107.set_1) | exact HI0.out)) (by (with_reducible repeat (first | apply Kd.R_alloc | apply Kd.R_drewN | apply Kd.R_drew)); exact HO_5.out) (by decide)) hk (fun _ h => h.2)) (fun _ h => h.1)); have n1_ := Aside0.mk (KeepBut.trans (by repeat (first | (with_reducible first | exact HK.out | apply KeepBut.set_ | apply keep_drewN | apply keep_drew | apply keep_alloc) | exact HK.out)) hk (.inl rfl)); have n2_ := Aside0.mk (hb); have n3_ := Aside0.mk (hi); clear HO_5; clear HK; clear HB; clear HI0; have HO_5 := n0_; have HK := n1_; have HB := n2_; have HI0 := n3_; clear n0_ n1_ n2_ n3_; (try clear hb); (try clear hb2); (try clear hk); (try clear hi)) | ((with_reducible refine gate_builtin (b := .append) (xs := #[.tmp 10, .tmp 14]) rfl ?_); at_builtin; refine Kd.R_append (Kd.int .u8) w.heap.size rfl (.tmp 10) (.tmp 14) 29 5 (.int .u8 0) 1 rfl Try.underlying29 info5 rfl (by decide) (by omega) u5 x5_1 ((t129) % 256) [.int .u8 ((t129) % 256)] (fun _ => True) (fun _ => False) rfl rfl ?aP (fun _ hk => hk.elim) ?aF ?aO (Below.refl _ _) ?aS ?aL ?_; (case aP => exact rfl); (case aF => exact (fun _ _ => trivial)); (case aO => exact (by (with_reducible repeat (first | apply Kd.R_alloc | apply Kd.R_drewN | apply Kd.R_drew)); exact HO_5.out)); (case aS => exact (keep_size (w := w) (g := g) (row := none) (by repeat (first | (with_reducible first | exact HK.out | apply KeepBut.set_ | apply keep_drewN | apply keep_drew | apply keep_alloc) | exact HK.out)))); (case aL => have := LMc5.out; omega); intro v132 w7 ho hb hg hat; rw [← Ny131.out] at ho; have n0_ := Aside0.mk (IsS107.grown (by repeat (first | (with_reducible first | exact HI0.out | apply IsS107.alloc | apply IsS107.drewN | apply IsS107.drew | apply IsS107.set_1) | exact HI0.out)) hg (IsS107.own_ne HI0.out HO_5.out (by decide))); have n1_ := Aside0.mk (below_weaken (by repeat (first | (with_reducible first | exact HB.out | apply below_alloc | apply pw_below_drewN | apply below_drew1 | refine below_set ?_ (IsS107.ge HI0.out)) | exact HB.out)) HL.out hb); have n2_ := Aside0.mk (KeepBut.trans (by repeat (first | (with_reducible first | exact HK.out | apply KeepBut.set_ | apply keep_drewN | apply keep_drew | apply keep_alloc) | exact HK.out)) (KeepBut.of_grown hg g) (Kd.R_base2 HO_5.out)); have n3_ := Aside0.mk (ho); clear HI0; clear HB; clear HK; clear HO_5; have HI0 := n0_; have HB := n1_; have HK := n2_; have HO133 := n3_; clear n0_ n1_ n2_ n3_; clear ho hb hg hat))
          go_roundg k1
          case measure => have := HK1.out; omega
          case rel => exact ⟨(wrap64 (x1_1 - 1)), (y131), (t130), (by first | rfl | (simp; done) | (simp [*]; done)), H', ⟨by have := HK1.out; omega⟩, ⟨by (with_reducible repeat (first | apply Kd.R_alloc | apply Kd.R_drewN | apply Kd.R_drew)); exact HO133.out⟩, ⟨by repeat (first | (with_reducible first | exact HI0.out | apply IsS107.alloc | apply IsS107.drewN | apply IsS107.drew | apply IsS107.set_1) | exact HI0.out)⟩, ⟨by repeat (first | (with_reducible first | exact HK.out | apply KeepBut.set_ | apply keep_drewN | apply keep_drew | apply keep_alloc) | exact HK.out)⟩, ⟨by repeat (first | (with_reducible first | exact HB.out | apply below_alloc | apply pw_below_drewN | apply below_drew1 | refine below_set ?_ (IsS107.ge HI0.out)) | exact HB.out)⟩⟩
        · rw [if_neg c5] at H
          exact absurd H (by simp)
      · rw [if_neg c3] at H
        have c3b0 : decide (0 < x1_1) = false := decide_eq_false c3
        clear c3
        simp only [Option.some.injEq, Prod.mk.injEq] at H
        obtain ⟨rfl, rfl⟩ := H
        go_wp2
        go_ret
        exact ⟨_, by first | rfl | (simp [errW_none, errW_some] <;> rfl) | (simp [*, errW_none, errW_some] <;> rfl), by (with_reducible repeat (first | apply Kd.R_alloc | apply Kd.R_drewN | apply Kd.R_drew)); exact HO_5.out, by repeat (first | (with_reducible first | exact HI0.out | apply IsS107.alloc | apply IsS107.drewN | apply IsS107.drew | apply IsS107.set_1) | exact HI0.out), by repeat (first | (with_reducible first | exact HB.out | apply below_alloc | apply pw_below_drewN | apply below_drew1 | refine below_set ?_ (IsS107.ge HI0.out)) | exact HB.out), by repeat (first | (with_reducible first | exact HK.out | apply KeepBut.set_ | apply keep_drewN | apply keep_drew | apply keep_alloc) | exact HK.out)⟩

def spec_l3Ksn.f (k : Nat) (s0_0 : List Int) (s0_1 : Int) : Option (List Int × Int) := (spec_l1Some.f k s0_0 s0_1 7).bind fun bt134 => ((spec_l1R_next.f s0_0 bt134.2).bind fun bt138 => (if (Int.tmod bt138.1 4) = 3 then ((spec_l1R_next.f s0_0 bt138.2).bind fun bt140 => ((spec_l1R_next.f s0_0 bt140.2).bind fun bt142 => ((spec_l1R_next.f s0_0 bt142.2).bind fun bt144 => ((some (([(bt138.1) % 256, (Go.bits .and .i64 bt140.1 bt142.1) % 256, (bt144.1) % 256] : List Int) : List Int)).bind fun y146 => (if bt134.1.length + y146.length < 140737488355328 then (some ((bt134.1 ++ y146), bt144.2)) else (none)))))) else ((spec_l1R_next.f s0_0 bt138.2).bind fun bt152 => ((spec_l1R_next.f s0_0 bt152.2).bind fun bt154 => ((spec_l1R_next.f s0_0 bt154.2).bind fun bt156 => ((some (([(Go.bits .and .i64 bt138.1 224) % 256, (Go.bits .and .i64 bt152.1 bt154.1) % 256, (bt156.1) % 256] : List Int) : List Int)).bind fun y158 => (if bt134.1.length + y158.length < 140737488355328 then (some ((bt134.1 ++ y158), bt156.2)) else (none))))))))
set_option maxHeartbeats 8000000 in
set_option maxRecDepth 100000 in
theorem spec_l3Ksn.calls (k : Nat) (g : Nat) (s0_0 : List Int) (s0_1 : Int) (r1 : List Int) (r2 : Int) (w0 w : World) (hI : IsS107 w0 w g s0_0 s0_1) (hB : Below w0.heap.size w0 w) (h : spec_l3Ksn.f k s0_0 s0_1 = some (r1, r2)) :
    Calls Try.prog 87 #[.pointer (some ⟨g, 0, none⟩)] w fun e w' => ∃ v0_ : Value, e = .returned (v0_) ∧ Kd.R (Kd.int .u8) 5 w' w.heap.size (fun _ => True) v0_ r1 ∧ IsS107 w0 w' g s0_0 r2 ∧ Below w0.heap.size w0 w' ∧ KeepBut w w' g none := by
  have HI0 := Aside0.mk hI
  have HK := Aside0.mk (KeepBut.refl w g none)
  have HL := Aside0.mk hB.size
  clear hI
  have HW0 := Aside0.mk hB.size
  have HB := Aside0.mk hB
  clear hB
  have H : ((spec_l1Some.f k s0_0 s0_1 7).bind fun bt134 => ((spec_l1R_next.f s0_0 bt134.2).bind fun bt138 => (if (Int.tmod bt138.1 4) = 3 then ((spec_l1R_next.f s0_0 bt138.2).bind fun bt140 => ((spec_l1R_next.f s0_0 bt140.2).bind fun bt142 => ((spec_l1R_next.f s0_0 bt142.2).bind fun bt144 => ((some (([(bt138.1) % 256, (Go.bits .and .i64 bt140.1 bt142.1) % 256, (bt144.1) % 256] : List Int) : List Int)).bind fun y146 => (if bt134.1.length + y146.length < 140737488355328 then (some ((bt134.1 ++ y146), bt144.2)) else (none)))))) else ((spec_l1R_next.f s0_0 bt138.2).bind fun bt152 => ((spec_l1R_next.f s0_0 bt152.2).bind fun bt154 => ((spec_l1R_next.f s0_0 bt154.2).bind fun bt156 => ((some (([(Go.bits .and .i64 bt138.1 224) % 256, (Go.bits .and .i64 bt152.1 bt154.1) % 256, (bt156.1) % 256] : List Int) : List Int)).bind fun y158 => (if bt134.1.length + y158.length < 140737488355328 then (some ((bt134.1 ++ y158), bt156.2)) else (none))))))))) = some (r1, r2) := h
  clear h
  replace H := Option.bind_eq_some_iff.mp H
  obtain ⟨⟨t134, t137⟩, A20, H⟩ := H
  replace H : ((spec_l1R_next.f s0_0 t137).bind fun bt138 => (if (Int.tmod bt138.1 4) = 3 then ((spec_l1R_next.f s0_0 bt138.2).bind fun bt140 => ((spec_l1R_next.f s0_0 bt140.2).bind fun bt142 => ((spec_l1R_next.f s0_0 bt142.2).bind fun bt144 => ((some (([(bt138.1) % 256, (Go.bits .and .i64 bt140.1 bt142.1) % 256, (bt144.1) % 256] : List Int) : List Int)).bind fun y146 => (if t134.length + y146.length < 140737488355328 then (some ((t134 ++ y146), bt144.2)) else (none)))))) else ((spec_l1R_next.f s0_0 bt138.2).bind fun bt152 => ((spec_l1R_next.f s0_0 bt152.2).bind fun bt154 => ((spec_l1R_next.f s0_0 bt154.2).bind fun bt156 => ((some (([(Go.bits .and .i64 bt138.1 224) % 256, (Go.bits .and .i64 bt152.1 bt154.1) % 256, (bt156.1) % 256] : List Int) : List Int)).bind fun y158 => (if t134.length + y158.length < 140737488355328 then (some ((t134 ++ y158), bt156.2)) else (none)))))))) = some (r1, r2) := H
  have A2 := Aside0.mk A20
  clear A20
  replace H := Option.bind_eq_some_iff.mp H
  obtain ⟨⟨t138, t139⟩, A30, H⟩ := H
  replace H : (if (Int.tmod t138 4) = 3 then ((spec_l1R_next.f s0_0 t139).bind fun bt140 => ((spec_l1R_next.f s0_0 bt140.2).bind fun bt142 => ((spec_l1R_next.f s0_0 bt142.2).bind fun bt144 => ((some (([(t138) % 256, (Go.bits .and .i64 bt140.1 bt142.1) % 256, (bt144.1) % 256] : List Int) : List Int)).bind fun y146 => (if t134.length + y146.length < 140737488355328 then (some ((t134 ++ y146), bt144.2)) else (none)))))) else ((spec_l1R_next.f s0_0 t139).bind fun bt152 => ((spec_l1R_next.f s0_0 bt152.2).bind fun bt154 => ((spec_l1R_next.f s0_0 bt154.2).bind fun bt156 => ((some (([(Go.bits .and .i64 t138 224) % 256, (Go.bits .and .i64 bt152.1 bt154.1) % 256, (bt156.1) % 256] : List Int) : List Int)).bind fun y158 => (if t134.length + y158.length < 140737488355328 then (some ((t134 ++ y158), bt156.2)) else (none))))))) = some (r1, r2) := H
  have A3 := Aside0.mk A30
  clear A30
  by_cases c4 : (Int.tmod t138 4) = 3
  · rw [if_pos c4] at H
    have c4b0 : ((Int.tmod t138 4) == 3) = true := beq_iff_eq.mpr c4
    have c4b1 : ((Int.tmod t138 4) != 3) = false := bne_eq_false_iff_eq.mpr c4
    clear c4
    replace H := Option.bind_eq_some_iff.mp H
    obtain ⟨⟨t140, t141⟩, A50, H⟩ := H
    replace H : ((spec_l1R_next.f s0_0 t141).bind fun bt142 => ((spec_l1R_next.f s0_0 bt142.2).bind fun bt144 => ((some (([(t138) % 256, (Go.bits .and .i64 t140 bt142.1) % 256, (bt144.1) % 256] : List Int) : List Int)).bind fun y146 => (if t134.length + y146.length < 140737488355328 then (some ((t134 ++ y146), bt144.2)) else (none))))) = some (r1, r2) := H
    have A5 := Aside0.mk A50
    clear A50
    replace H := Option.bind_eq_some_iff.mp H
    obtain ⟨⟨t142, t143⟩, A60, H⟩ := H
    replace H : ((spec_l1R_next.f s0_0 t143).bind fun bt144 => ((some (([(t138) % 256, (Go.bits .and .i64 t140 t142) % 256, (bt144.1) % 256] : List Int) : List Int)).bind fun y146 => (if t134.length + y146.length < 140737488355328 then (some ((t134 ++ y146), bt144.2)) else (none)))) = some (r1, r2) := H
    have A6 := Aside0.mk A60
    clear A60
    replace H := Option.bind_eq_some_iff.mp H
    obtain ⟨⟨t144, t145⟩, A70, H⟩ := H
    replace H : ((some (([(t138) % 256, (Go.bits .and .i64 t140 t142) % 256, (t144) % 256] : List Int) : List Int)).bind fun y146 => (if t134.length + y146.length < 140737488355328 then (some ((t134 ++ y146), t145)) else (none))) = some (r1, r2) := H
    have A7 := Aside0.mk A70
    clear A70
    obtain ⟨y146, hy146⟩ : ∃ y_ : List Int, y_ = (([(t138) % 256, (Go.bits .and .i64 t140 t142) % 256, (t144) % 256] : List Int)) := ⟨_, rfl⟩
    replace H : (if t134.length + y146.length < 140737488355328 then (some ((t134 ++ y146), t145)) else (none)) = some (r1, r2) := by first | (rw [hy146]; with_reducible exact H) | (have H2_ := (Option.bind_some _ _).symm.trans H; rw [hy146]; with_reducible exact H2_) | (have H2_ := (Option.bind_some _ _).symm.trans H; with_reducible exact H2_) | with_reducible exact H | (rw [hy146]; exact H) | exact H
    have Ny146 := Aside0.mk hy146
    clear hy146
    by_cases c8 : t134.length + y146.length < 140737488355328
    · rw [if_pos c8] at H
      have LMc8 := Aside0.mk c8
      clear c8
      obtain ⟨y149, hy149⟩ : ∃ y_ : List Int, y_ = (t134 ++ y146) := ⟨_, rfl⟩
      replace H : (some (y149, t145)) = some (r1, r2) := by first | (rw [hy149]; with_reducible exact H) | (have H2_ := (Option.bind_some _ _).symm.trans H; rw [hy149]; with_reducible exact H2_) | (have H2_ := (Option.bind_some _ _).symm.trans H; with_reducible exact H2_) | with_reducible exact H | (rw [hy149]; exact H) | exact H
      have Ny149 := Aside0.mk hy149
      clear hy149
      simp only [Option.some.injEq, Prod.mk.injEq] at H
      obtain ⟨rfl, rfl⟩ := H
      go_enter Try.func87, Try.ntmps87
      go_wp2_with (first | ((with_reducible refine gate_callee (f := 93) rfl ?_); refine goesL_ (some 7) rfl rfl Try.func93 (by kernel_rfl) rfl #[.pointer (some ⟨g, 0, none⟩), .int .i64 7] rfl (by (try simp only [List.map_toArray, List.map_cons, List.map_nil]); first | done | rfl | (simp only [List.length_drop, List.length_take]; rfl)) ?_; (with_reducible refine (spec_l1Some.calls k g s0_0 s0_1 7 t134 t137 w0 _ ?side1 ?side2 A2.out).mono ?_); (case side1 => repeat (first | (with_reducible first | exact HI0.out | apply IsS107.alloc | apply IsS107.drewN | apply IsS107.drew | apply IsS107.set_1) | exact HI0.out)); (case side2 => repeat (first | (with_reducible first | exact HB.out | apply below_alloc | apply pw_below_drewN | apply below_drew1 | refine below_set ?_ (IsS107.ge HI0.out)) | exact HB.out)); rintro e w9 ⟨v135, rfl, ho0, hi, hb, hk⟩; refine ⟨_, rfl, ?_⟩; have n0_ := Aside0.mk (Kd.R_lower ho0 (keep_size (w := w) (g := g) (row := none) (by repeat (first | (with_reducible first | exact HK.out | apply KeepBut.set_ | apply keep_drewN | apply keep_drew | apply keep_alloc) | exact HK.out)))); have n1_ := Aside0.mk (KeepBut.trans (by repeat (first | (with_reducible first | exact HK.out | apply KeepBut.set_ | apply keep_drewN | apply keep_drew | apply keep_alloc) | exact HK.out)) hk (.inl rfl)); have n2_ := Aside0.mk (hb); have n3_ := Aside0.mk (hi); clear HK; clear HB; clear HI0; have HO136 := n0_; have HK := n1_; have HB := n2_; have HI0 := n3_; clear n0_ n1_ n2_ n3_; (try clear hb); (try clear hb2); (try clear hk); (try clear hi); (try clear ho0)) | ((with_reducible refine gate_callee (f := 70) rfl ?_); refine goesL_ (some 9) rfl rfl Try.func70 (by kernel_rfl) rfl #[.pointer (some ⟨g, 0, none⟩)] rfl (by (try simp only [List.map_toArray, List.map_cons, List.map_nil]); first | done | rfl | (simp only [List.length_drop, List.length_take]; rfl)) ?_; (with_reducible refine (spec_l1R_next.calls g s0_0 t137 t138 t139 w0 _ ?side1 ?side2 A3.out).mono ?_); (case side1 => repeat (first | (with_reducible first | exact HI0.out | apply IsS107.alloc | apply IsS107.drewN | apply IsS107.drew | apply IsS107.set_1) | exact HI0.out)); (case side2 => repeat (first | (with_reducible first | exact HB.out | apply below_alloc | apply pw_below_drewN | apply below_drew1 | refine below_set ?_ (IsS107.ge HI0.out)) | exact HB.out)); rintro e w10 ⟨rfl, hi, hb, hk⟩; refine ⟨_, rfl, ?_⟩; have n0_ := Aside0.mk (Kd.R_mono (Kd.R_keep (IsS107.apart (show IsS107 w0 _ g s0_0 t137 from by repeat (first | (with_reducible first | exact HI0.out | apply IsS107.alloc | apply IsS107.drewN | apply IsS107.drew | apply IsS107.set_1) | exact HI0.out)) (by (with_reducible repeat (first | apply Kd.R_alloc | apply Kd.R_drewN | apply Kd.R_drew)); exact HO136.out) (by decide)) hk (fun _ h => h.2)) (fun _ h => h.1)); have n1_ := Aside0.mk (KeepBut.trans (by repeat (first | (with_reducible first | exact HK.out | apply KeepBut.set_ | apply keep_drewN | apply keep_drew | apply keep_alloc) | exact HK.out)) hk (.inl rfl)); have n2_ := Aside0.mk (hb); have n3_ := Aside0.mk (hi); clear HO136; clear HK; clear HB; clear HI0; have HO136 := n0_; have HK := n1_; have HB := n2_; have HI0 := n3_; clear n0_ n1_ n2_ n3_; (try clear hb); (try clear hb2); (try clear hk); (try clear hi)) | ((with_reducible refine gate_callee (f := 70) rfl ?_); refine goesL_ (some 21) rfl rfl Try.func70 (by kernel_rfl) rfl #[.pointer (some ⟨g, 0, none⟩)] rfl (by (try simp only [List.map_toArray, List.map_cons, List.map_nil]); first | done | rfl | (simp only [List.length_drop, List.length_take]; rfl)) ?_; (with_reducible refine (spec_l1R_next.calls g s0_0 t139 t140 t141 w0 _ ?side1 ?side2 A5.out).mono ?_); (case side1 => repeat (first | (with_reducible first | exact HI0.out | apply IsS107.alloc | apply IsS107.drewN | apply IsS107.drew | apply IsS107.set_1) | exact HI0.out)); (case side2 => repeat (first | (with_reducible first | exact HB.out | apply below_alloc | apply pw_below_drewN | apply below_drew1 | refine below_set ?_ (IsS107.ge HI0.out)) | exact HB.out)); rintro e w11 ⟨rfl, hi, hb, hk⟩; refine ⟨_, rfl, ?_⟩; have n0_ := Aside0.mk (Kd.R_mono (Kd.R_keep (IsS107.apart (show IsS107 w0 _ g s0_0 t139 from by repeat (first | (with_reducible first | exact HI0.out | apply IsS107.alloc | apply IsS107.drewN | apply IsS107.drew | apply IsS107.set_1) | exact HI0.out)) (by (with_reducible repeat (first | apply Kd.R_alloc | apply Kd.R_drewN | apply Kd.R_drew)); exact HO136.out) (by decide)) hk (fun _ h => h.2)) (fun _ h => h.1)); have n1_ := Aside0.mk (KeepBut.trans (by repeat (first | (with_reducible first | exact HK.out | apply KeepBut.set_ | apply keep_drewN | apply keep_drew | apply keep_alloc) | exact HK.out)) hk (.inl rfl)); have n2_ := Aside0.mk (hb); have n3_ := Aside0.mk (hi); clear HO136; clear HK; clear HB; clear HI0; have HO136 := n0_; have HK := n1_; have HB := n2_; have HI0 := n3_; clear n0_ n1_ n2_ n3_; (try clear hb); (try clear hb2); (try clear hk); (try clear hi)) | ((with_reducible refine gate_callee (f := 70) rfl ?_); refine goesL_ (some 23) rfl rfl Try.func70 (by kernel_rfl) rfl #[.pointer (some ⟨g, 0, none⟩)] rfl (by (try simp only [List.map_toArray, List.map_cons, List.map_nil]); first | done | rfl | (simp only [List.length_drop, List.length_take]; rfl)) ?_; (with_reducible refine (spec_l1R_next.calls g s0_0 t141 t142 t143 w0 _ ?side1 ?side2 A6.out).mono ?_); (case side1 => repeat (first | (with_reducible first | exact HI0.out | apply IsS107.alloc | apply IsS107.drewN | apply IsS107.drew | apply IsS107.set_1) | exact HI0.out)); (case side2 => repeat (first | (with_reducible first | exact HB.out | apply below_alloc | apply pw_below_drewN | apply below_drew1 | refine below_set ?_ (IsS107.ge HI0.out)) | exact HB.out)); rintro e w12 ⟨rfl, hi, hb, hk⟩; refine ⟨_, rfl, ?_⟩; have n0_ := Aside0.mk (Kd.R_mono (Kd.R_keep (IsS107.apart (show IsS107 w0 _ g s0_0 t141 from by repeat (first | (with_reducible first | exact HI0.out | apply IsS107.alloc | apply IsS107.drewN | apply IsS107.drew | apply IsS107.set_1) | exact HI0.out)) (by (with_reducible repeat (first | apply Kd.R_alloc | apply Kd.R_drewN | apply Kd.R_drew)); exact HO136.out) (by decide)) hk (fun _ h => h.2)) (fun _ h => h.1)); have n1_ := Aside0.mk (KeepBut.trans (by repeat (first | (with_reducible first | exact HK.out | apply KeepBut.set_ | apply keep_drewN | apply keep_drew | apply keep_alloc) | exact HK.out)) hk (.inl rfl)); have n2_ := Aside0.mk (hb); have n3_ := Aside0.mk (hi); clear HO136; clear HK; clear HB; clear HI0; have HO136 := n0_; have HK := n1_; have HB := n2_; have HI0 := n3_; clear n0_ n1_ n2_ n3_; (try clear hb); (try clear hb2); (try clear hk); (try clear hi)) | ((with_reducible refine gate_callee (f := 70) rfl ?_); refine goesL_ (some 27) rfl rfl Try.func70 (by kernel_rfl) rfl #[.pointer (some ⟨g, 0, none⟩)] rfl (by (try simp only [List.map_toArray, List.map_cons, List.map_nil]); first | done | rfl | (simp only [List.length_drop, List.length_take]; rfl)) ?_; (with_reducible refine (spec_l1R_next.calls g s0_0 t143 t144 t145 w0 _ ?side1 ?side2 A7.out).mono ?_); (case side1 => repeat (first | (with_reducible first | exact HI0.out | apply IsS107.alloc | apply IsS107.drewN | apply IsS107.drew | apply IsS107.set_1) | exact HI0.out)); (case side2 => repeat (first | (with_reducible first | exact HB.out | apply below_alloc | apply pw_below_drewN | apply below_drew1 | refine below_set ?_ (IsS107.ge HI0.out)) | exact HB.out)); rintro e w13 ⟨rfl, hi, hb, hk⟩; refine ⟨_, rfl, ?_⟩; have n0_ := Aside0.mk (Kd.R_mono (Kd.R_keep (IsS107.apart (show IsS107 w0 _ g s0_0 t143 from by repeat (first | (with_reducible first | exact HI0.out | apply IsS107.alloc | apply IsS107.drewN | apply IsS107.drew | apply IsS107.set_1) | exact HI0.out)) (by (with_reducible repeat (first | apply Kd.R_alloc | apply Kd.R_drewN | apply Kd.R_drew)); exact HO136.out) (by decide)) hk (fun _ h => h.2)) (fun _ h => h.1)); have n1_ := Aside0.mk (KeepBut.trans (by repeat (first | (with_reducible first | exact HK.out | apply KeepBut.set_ | apply keep_drewN | apply keep_drew | apply keep_alloc) | exact HK.out)) hk (.inl rfl)); have n2_ := Aside0.mk (hb); have n3_ := Aside0.mk (hi); clear HO136; clear HK; clear HB; clear HI0; have HO136 := n0_; have HK := n1_; have HB := n2_; have HI0 := n3_; clear n0_ n1_ n2_ n3_; (try clear hb); (try clear hb2); (try clear hk); (try clear hi)) | ((with_reducible refine gate_dst (N := 29) rfl ?_); refine Kd.R_lit (Kd.int .u8) _ 5 ?hg (N := 29) ?hd (xs := ([(t138) % 256, (Go.bits .and .i64 t140 t142) % 256, (t144) % 256] : List Int)) (inner := [.int .u8 ((t138) % 256), .int .u8 ((Go.bits .and .i64 t140 t142) % 256), .int .u8 ((t144) % 256)]) (ok := fun _ => True) (okp := fun _ => True) ?hr ?hp (fun _ hk => hk) trivial (Below.refl _ _) (Nat.le_refl _) (by simp) ?_; (case hd => rfl); (case hg => rfl); (case hr => first | (go_simp; done) | (go_simp; rfl)); (case hp => exact (Reps.one (show Kd.M (Kd.int .u8) _ _ _ ((t138) % 256) [.int .u8 ((t138) % 256)] from rfl) (Reps.one (show Kd.M (Kd.int .u8) _ _ _ ((Go.bits .and .i64 t140 t142) % 256) [.int .u8 ((Go.bits .and .i64 t140 t142) % 256)] from rfl) (Reps.one (show Kd.M (Kd.int .u8) _ _ _ ((t144) % 256) [.int .u8 ((t144) % 256)] from rfl) (Reps.none _ _))))); intro v147 w14 ho15 hb hg_ hnew_; clear hg_ hnew_; (first | rw [← Ny146.out] at ho15 | (simp only [Int.reduceToNat] at ho15; rw [← Ny146.out] at ho15)); have n0_ := Aside0.mk (Kd.R_elder' (by (with_reducible repeat (first | apply Kd.R_alloc | apply Kd.R_drewN | apply Kd.R_drew)); exact HO136.out) (Kd.R_base ho15) hb); have n1_ := Aside0.mk (Kd.R_lower (Kd.R_new' ho15 (Kd.R_lt (by (with_reducible repeat (first | apply Kd.R_alloc | apply Kd.R_drewN | apply Kd.R_drew)); exact HO136.out))) (keep_size (w := w) (g := g) (row := none) (by repeat (first | (with_reducible first | exact HK.out | apply KeepBut.set_ | apply keep_drewN | apply keep_drew | apply keep_alloc) | exact HK.out)))); have n2_ := Aside0.mk (IsS107.below (by repeat (first | (with_reducible first | exact HI0.out | apply IsS107.alloc | apply IsS107.drewN | apply IsS107.drew | apply IsS107.set_1) | exact HI0.out)) hb); have n3_ := Aside0.mk (KeepBut.trans (by repeat (first | (with_reducible first | exact HK.out | apply KeepBut.set_ | apply keep_drewN | apply keep_drew | apply keep_alloc) | exact HK.out)) (KeepBut.of_below hb g none) (.inl rfl)); have n4_ := Aside0.mk (below_step (by repeat (first | (with_reducible first | exact HB.out | apply below_alloc | apply pw_below_drewN | apply below_drew1 | refine below_set ?_ (IsS107.ge HI0.out)) | exact HB.out)) hb); clear HO136; clear HI0; clear HK; clear HB; have HO136 := n0_; have HO148 := n1_; have HI0 := n2_; have HK := n3_; have HB := n4_; clear n0_ n1_ n2_ n3_ n4_; clear hb ho15; obtain ⟨Ao17, co17, eo17⟩ := Kd.R_slice HO148.out; subst eo17) | ((with_reducible refine gate_builtin (b := .append) (xs := #[.tmp 18, .tmp 29]) rfl ?_); at_builtin; refine Kd.R_append_rows (Kd.int .u8) w.heap.size rfl (.tmp 18) (.tmp 29) 29 5 (.int .u8 0) 1 rfl Try.underlying29 info5 rfl (by decide) (by omega) v135 t134 y146 _ _ _ (fun k_ => some k_ ≠ (.slice Ao17 y146.length co17 : Value).ownBlock) (fun _ => False) rfl rfl ?aO ?aR (fun _ _ h => h) (fun _ h => h.elim) ?aF (Below.refl _ _) ?aS ?aL ?_; (case aR => repeat (first | exact (Kd.R_reads' HO148.out).2.2 | (with_reducible refine Kd.C_alloc ?_ _) | (with_reducible refine Kd.C_drewN ?_ _) | (with_reducible refine Kd.C_drew ?_))); (case aF => exact (fun k_ hk => Kd.fresh' (Kd.R_lt (by (with_reducible repeat (first | apply Kd.R_alloc | apply Kd.R_drewN | apply Kd.R_drew)); exact HO148.out)) k_ hk)); (case aO => exact (by (with_reducible repeat (first | apply Kd.R_alloc | apply Kd.R_drewN | apply Kd.R_drew)); exact Kd.R_mono HO136.out (fun _ hk => hk.2))); (case aS => exact (keep_size (w := w) (g := g) (row := none) (by repeat (first | (with_reducible first | exact HK.out | apply KeepBut.set_ | apply keep_drewN | apply keep_drew | apply keep_alloc) | exact HK.out)))); (case aL => have := LMc8.out; omega); intro v150 w16 ho hb hg hat; rw [← Ny149.out] at ho; have n0_ := Aside0.mk (IsS107.grown (by repeat (first | (with_reducible first | exact HI0.out | apply IsS107.alloc | apply IsS107.drewN | apply IsS107.drew | apply IsS107.set_1) | exact HI0.out)) hg (IsS107.own_ne HI0.out HO136.out (by decide))); have n1_ := Aside0.mk (Kd.R_after (ok := (fun _ => True)) (by (with_reducible repeat (first | apply Kd.R_alloc | apply Kd.R_drewN | apply Kd.R_drew)); exact HO148.out) hg hat); have n2_ := Aside0.mk (below_weaken (by repeat (first | (with_reducible first | exact HB.out | apply below_alloc | apply pw_below_drewN | apply below_drew1 | refine below_set ?_ (IsS107.ge HI0.out)) | exact HB.out)) HL.out hb); have n3_ := Aside0.mk (KeepBut.trans (by repeat (first | (with_reducible first | exact HK.out | apply KeepBut.set_ | apply keep_drewN | apply keep_drew | apply keep_alloc) | exact HK.out)) (KeepBut.of_grown hg g) (Kd.R_base2 HO136.out)); have n4_ := Aside0.mk (ho); clear HI0; clear HO148; clear HB; clear HK; clear HO136; have HI0 := n0_; have HO148 := n1_; have HB := n2_; have HK := n3_; have HO151 := n4_; clear n0_ n1_ n2_ n3_ n4_; clear ho hb hg hat))
      go_ret
      exact ⟨_, by first | rfl | (simp [errW_none, errW_some] <;> rfl) | (simp [*, errW_none, errW_some] <;> rfl), by (with_reducible repeat (first | apply Kd.R_alloc | apply Kd.R_drewN | apply Kd.R_drew)); exact Kd.R_mono HO151.out (fun _ hk => trivial), by repeat (first | (with_reducible first | exact HI0.out | apply IsS107.alloc | apply IsS107.drewN | apply IsS107.drew | apply IsS107.set_1) | exact HI0.out), by repeat (first | (with_reducible first | exact HB.out | apply below_alloc | apply pw_below_drewN | apply below_drew1 | refine below_set ?_ (IsS107.ge HI0.out)) | exact HB.out), by repeat (first | (with_reducible first | exact HK.out | apply KeepBut.set_ | apply keep_drewN | apply keep_drew | apply keep_alloc) | exact HK.out)⟩
    · rw [if_neg c8] at H
      exact absurd H (by simp)
  · rw [if_neg c4] at H
    have c4b0 : ((Int.tmod t138 4) == 3) = false := beq_eq_false_iff_ne.mpr c4
    have c4b1 : ((Int.tmod t138 4) != 3) = true := bne_iff_ne.mpr c4
    replace H := Option.bind_eq_some_iff.mp H
    obtain ⟨⟨t152, t153⟩, A180, H⟩ := H
    replace H : ((spec_l1R_next.f s0_0 t153).bind fun bt154 => ((spec_l1R_next.f s0_0 bt154.2).bind fun bt156 => ((some (([(Go.bits .and .i64 t138 224) % 256, (Go.bits .and .i64 t152 bt154.1) % 256, (bt156.1) % 256] : List Int) : List Int)).bind fun y158 => (if t134.length + y158.length < 140737488355328 then (some ((t134 ++ y158), bt156.2)) else (none))))) = some (r1, r2) := H
    have A18 := Aside0.mk A180
    clear A180
    replace H := Option.bind_eq_some_iff.mp H
    obtain ⟨⟨t154, t155⟩, A190, H⟩ := H
    replace H : ((spec_l1R_next.f s0_0 t155).bind fun bt156 => ((some (([(Go.bits .and .i64 t138 224) % 256, (Go.bits .and .i64 t152 t154) % 256, (bt156.1) % 256] : List Int) : List Int)).bind fun y158 => (if t134.length + y158.length < 140737488355328 then (some ((t134 ++ y158), bt156.2)) else (none)))) = some (r1, r2) := H
    have A19 := Aside0.mk A190
    clear A190
    replace H := Option.bind_eq_some_iff.mp H
    obtain ⟨⟨t156, t157⟩, A200, H⟩ := H
    replace H : ((some (([(Go.bits .and .i64 t138 224) % 256, (Go.bits .and .i64 t152 t154) % 256, (t156) % 256] : List Int) : List Int)).bind fun y158 => (if t134.length + y158.length < 140737488355328 then (some ((t134 ++ y158), t157)) else (none))) = some (r1, r2) := H
    have A20 := Aside0.mk A200
    clear A200
    obtain ⟨y158, hy158⟩ : ∃ y_ : List Int, y_ = (([(Go.bits .and .i64 t138 224) % 256, (Go.bits .and .i64 t152 t154) % 256, (t156) % 256] : List Int)) := ⟨_, rfl⟩
    replace H : (if t134.length + y158.length < 140737488355328 then (some ((t134 ++ y158), t157)) else (none)) = some (r1, r2) := by first | (rw [hy158]; with_reducible exact H) | (have H2_ := (Option.bind_some _ _).symm.trans H; rw [hy158]; with_reducible exact H2_) | (have H2_ := (Option.bind_some _ _).symm.trans H; with_reducible exact H2_) | with_reducible exact H | (rw [hy158]; exact H) | exact H
    have Ny158 := Aside0.mk hy158
    clear hy158
    by_cases c21 : t134.length + y158.length < 140737488355328
    · rw [if_pos c21] at H
      have LMc21 := Aside0.mk c21
      clear c21
      obtain ⟨y161, hy161⟩ : ∃ y_ : List Int, y_ = (t134 ++ y158) := ⟨_, rfl⟩
      replace H : (some (y161, t157)) = some (r1, r2) := by first | (rw [hy161]; with_reducible exact H) | (have H2_ := (Option.bind_some _ _).symm.trans H; rw [hy161]; with_reducible exact H2_) | (have H2_ := (Option.bind_some _ _).symm.trans H; with_reducible exact H2_) | with_reducible exact H | (rw [hy161]; exact H) | exact H
      have Ny161 := Aside0.mk hy161
      clear hy161
      simp only [Option.some.injEq, Prod.mk.injEq] at H
      obtain ⟨rfl, rfl⟩ := H
      go_enter Try.func87, Try.ntmps87
      go_wp2_with (first | ((with_reducible refine gate_callee (f := 93) rfl ?_); refine goesL_ (some 7) rfl rfl Try.func93 (by kernel_rfl) rfl #[.pointer (some ⟨g, 0, none⟩), .int .i64 7] rfl (by (try simp only [List.map_toArray, List.map_cons, List.map_nil]); first | done | rfl | (simp only [List.length_drop, List.length_take]; rfl)) ?_; (with_reducible refine (spec_l1Some.calls k g s0_0 s0_1 7 t134 t137 w0 _ ?side1 ?side2 A2.out).mono ?_); (case side1 => repeat (first | (with_reducible first | exact HI0.out | apply IsS107.alloc | apply IsS107.drewN | apply IsS107.drew | apply IsS107.set_1) | exact HI0.out)); (case side2 => repeat (first | (with_reducible first | exact HB.out | apply below_alloc | apply pw_below_drewN | apply below_drew1 | refine below_set ?_ (IsS107.ge HI0.out)) | exact HB.out)); rintro e w22 ⟨v135, rfl, ho0, hi, hb, hk⟩; refine ⟨_, rfl, ?_⟩; have n0_ := Aside0.mk (Kd.R_lower ho0 (keep_size (w := w) (g := g) (row := none) (by repeat (first | (with_reducible first | exact HK.out | apply KeepBut.set_ | apply keep_drewN | apply keep_drew | apply keep_alloc) | exact HK.out)))); have n1_ := Aside0.mk (KeepBut.trans (by repeat (first | (with_reducible first | exact HK.out | apply KeepBut.set_ | apply keep_drewN | apply keep_drew | apply keep_alloc) | exact HK.out)) hk (.inl rfl)); have n2_ := Aside0.mk (hb); have n3_ := Aside0.mk (hi); clear HK; clear HB; clear HI0; have HO136 := n0_; have HK := n1_; have HB := n2_; have HI0 := n3_; clear n0_ n1_ n2_ n3_; (try clear hb); (try clear hb2); (try clear hk); (try clear hi); (try clear ho0)) | ((with_reducible refine gate_callee (f := 70) rfl ?_); refine goesL_ (some 9) rfl rfl Try.func70 (by kernel_rfl) rfl #[.pointer (some ⟨g, 0, none⟩)] rfl (by (try simp only [List.map_toArray, List.map_cons, List.map_nil]); first | done | rfl | (simp only [List.length_drop, List.length_take]; rfl)) ?_; (with_reducible refine (spec_l1R_next.calls g s0_0 t137 t138 t139 w0 _ ?side1 ?side2 A3.out).mono ?_); (case side1 => repeat (first | (with_reducible first | exact HI0.out | apply IsS107.alloc | apply IsS107.drewN | apply IsS107.drew | apply IsS107.set_1) | exact HI0.out)); (case side2 => repeat (first | (with_reducible first | exact HB.out | apply below_alloc | apply pw_below_drewN | apply below_drew1 | refine below_set ?_ (IsS107.ge HI0.out)) | exact HB.out)); rintro e w23 ⟨rfl, hi, hb, hk⟩; refine ⟨_, rfl, ?_⟩; have n0_ := Aside0.mk (Kd.R_mono (Kd.R_keep (IsS107.apart (show IsS107 w0 _ g s0_0 t137 from by repeat (first | (with_reducible first | exact HI0.out | apply IsS107.alloc | apply IsS107.drewN | apply IsS107.drew | apply IsS107.set_1) | exact HI0.out)) (by (with_reducible repeat (first | apply Kd.R_alloc | apply Kd.R_drewN | apply Kd.R_drew)); exact HO136.out) (by decide)) hk (fun _ h => h.2)) (fun _ h => h.1)); have n1_ := Aside0.mk (KeepBut.trans (by repeat (first | (with_reducible first | exact HK.out | apply KeepBut.set_ | apply keep_drewN | apply keep_drew | apply keep_alloc) | exact HK.out)) hk (.inl rfl)); have n2_ := Aside0.mk (hb); have n3_ := Aside0.mk (hi); clear HO136; clear HK; clear HB; clear HI0; have HO136 := n0_; have HK := n1_; have HB := n2_; have HI0 := n3_; clear n0_ n1_ n2_ n3_; (try clear hb); (try clear hb2); (try clear hk); (try clear hi)) | ((with_reducible refine gate_callee (f := 70) rfl ?_); refine goesL_ (some 21) rfl rfl Try.func70 (by kernel_rfl) rfl #[.pointer (some ⟨g, 0, none⟩)] rfl (by (try simp only [List.map_toArray, List.map_cons, List.map_nil]); first | done | rfl | (simp only [List.length_drop, List.length_take]; rfl)) ?_; (with_reducible refine (spec_l1R_next.calls g s0_0 t139 t152 t153 w0 _ ?side1 ?side2 A18.out).mono ?_); (case side1 => repeat (first | (with_reducible first | exact HI0.out | apply IsS107.alloc | apply IsS107.drewN | apply IsS107.drew | apply IsS107.set_1) | exact HI0.out)); (case side2 => repeat (first | (with_reducible first | exact HB.out | apply below_alloc | apply pw_below_drewN | apply below_drew1 | refine below_set ?_ (IsS107.ge HI0.out)) | exact HB.out)); rintro e w24 ⟨rfl, hi, hb, hk⟩; refine ⟨_, rfl, ?_⟩; have n0_ := Aside0.mk (Kd.R_mono (Kd.R_keep (IsS107.apart (show IsS107 w0 _ g s0_0 t139 from by repeat (first | (with_reducible first | exact HI0.out | apply IsS107.alloc | apply IsS107.drewN | apply IsS107.drew | apply IsS107.set_1) | exact HI0.out)) (by (with_reducible repeat (first | apply Kd.R_alloc | apply Kd.R_drewN | apply Kd.R_drew)); exact HO136.out) (by decide)) hk (fun _ h => h.2)) (fun _ h => h.1)); have n1_ := Aside0.mk (KeepBut.trans (by repeat (first | (with_reducible first | exact HK.out | apply KeepBut.set_ | apply keep_drewN | apply keep_drew | apply keep_alloc) | exact HK.out)) hk (.inl rfl)); have n2_ := Aside0.mk (hb); have n3_ := Aside0.mk (hi); clear HO136; clear HK; clear HB; clear HI0; have HO136 := n0_; have HK := n1_; have HB := n2_; have HI0 := n3_; clear n0_ n1_ n2_ n3_; (try clear hb); (try clear hb2); (try clear hk); (try clear hi)) | ((with_reducible refine gate_callee (f := 70) rfl ?_); refine goesL_ (some 23) rfl rfl Try.func70 (by kernel_rfl) rfl #[.pointer (some ⟨g, 0, none⟩)] rfl (by (try simp only [List.map_toArray, List.map_cons, List.map_nil]); first | done | rfl | (simp only [List.length_drop, List.length_take]; rfl)) ?_; (with_reducible refine (spec_l1R_next.calls g s0_0 t153 t154 t155 w0 _ ?side1 ?side2 A19.out).mono ?_); (case side1 => repeat (first | (with_reducible first | exact HI0.out | apply IsS107.alloc | apply IsS107.drewN | apply IsS107.drew | apply IsS107.set_1) | exact HI0.out)); (case side2 => repeat (first | (with_reducible first | exact HB.out | apply below_alloc | apply pw_below_drewN | apply below_drew1 | refine below_set ?_ (IsS107.ge HI0.out)) | exact HB.out)); rintro e w25 ⟨rfl, hi, hb, hk⟩; refine ⟨_, rfl, ?_⟩; have n0_ := Aside0.mk (Kd.R_mono (Kd.R_keep (IsS107.apart (show IsS107 w0 _ g s0_0 t153 from by repeat (first | (with_reducible first | exact HI0.out | apply IsS107.alloc | apply IsS107.drewN | apply IsS107.drew | apply IsS107.set_1) | exact HI0.out)) (by (with_reducible repeat (first | apply Kd.R_alloc | apply Kd.R_drewN | apply Kd.R_drew)); exact HO136.out) (by decide)) hk (fun _ h => h.2)) (fun _ h => h.1)); have n1_ := Aside0.mk (KeepBut.trans (by repeat (first | (with_reducible first | exact HK.out | apply KeepBut.set_ | apply keep_drewN | apply keep_drew | apply keep_alloc) | exact HK.out)) hk (.inl rfl)); have n2_ := Aside0.mk (hb); have n3_ := Aside0.mk (hi); clear HO136; clear HK; clear HB; clear HI0; have HO136 := n0_; have HK := n1_; have HB := n2_; have HI0 := n3_; clear n0_ n1_ n2_ n3_; (try clear hb); (try clear hb2); (try clear hk); (try clear hi)) | ((with_reducible refine gate_callee (f := 70) rfl ?_); refine goesL_ (some 27) rfl rfl Try.func70 (by kernel_rfl) rfl #[.pointer (some ⟨g, 0, none⟩)] rfl (by (try simp only [List.map_toArray, List.map_cons, List.map_nil]); first | done | rfl | (simp only [List.length_drop, List.length_take]; rfl)) ?_; (with_reducible refine (spec_l1R_next.calls g s0_0 t155 t156 t157 w0 _ ?side1 ?side2 A20.out).mono ?_); (case side1 => repeat (first | (with_reducible first | exact HI0.out | apply IsS107.alloc | apply IsS107.drewN | apply IsS107.drew | apply IsS107.set_1) | exact HI0.out)); (case side2 => repeat (first | (with_reducible first | exact HB.out | apply below_alloc | apply pw_below_drewN | apply below_drew1 | refine below_set ?_ (IsS107.ge HI0.out)) | exact HB.out)); rintro e w26 ⟨rfl, hi, hb, hk⟩; refine ⟨_, rfl, ?_⟩; have n0_ := Aside0.mk (Kd.R_mono (Kd.R_keep (IsS107.apart (show IsS107 w0 _ g s0_0 t155 from by repeat (first | (with_reducible first | exact HI0.out | apply IsS107.alloc | apply IsS107.drewN | apply IsS107.drew | apply IsS107.set_1) | exact HI0.out)) (by (with_reducible repeat (first | apply Kd.R_alloc | apply Kd.R_drewN | apply Kd.R_drew)); exact HO136.out) (by decide)) hk (fun _ h => h.2)) (fun _ h => h.1)); have n1_ := Aside0.mk (KeepBut.trans (by repeat (first | (with_reducible first | exact HK.out | apply KeepBut.set_ | apply keep_drewN | apply keep_drew | apply keep_alloc) | exact HK.out)) hk (.inl rfl)); have n2_ := Aside0.mk (hb); have n3_ := Aside0.mk (hi); clear HO136; clear HK; clear HB; clear HI0; have HO136 := n0_; have HK := n1_; have HB := n2_; have HI0 := n3_; clear n0_ n1_ n2_ n3_; (try clear hb); (try clear hb2); (try clear hk); (try clear hi)) | ((with_reducible refine gate_dst (N := 29) rfl ?_); refine Kd.R_lit (Kd.int .u8) _ 5 ?hg (N := 29) ?hd (xs := ([(Go.bits .and .i64 t138 224) % 256, (Go.bits .and .i64 t152 t154) % 256, (t156) % 256] : List Int)) (inner := [.int .u8 ((Go.bits .and .i64 t138 224) % 256), .int .u8 ((Go.bits .and .i64 t152 t154) % 256), .int .u8 ((t156) % 256)]) (ok := fun _ => True) (okp := fun _ => True) ?hr ?hp (fun _ hk => hk) trivial (Below.refl _ _) (Nat.le_refl _) (by simp) ?_; (case hd => rfl); (case hg => rfl); (case hr => first | (go_simp; done) | (go_simp; rfl)); (case hp => exact (Reps.one (show Kd.M (Kd.int .u8) _ _ _ ((Go.bits .and .i64 t138 224) % 256) [.int .u8 ((Go.bits .and .i64 t138 224) % 256)] from rfl) (Reps.one (show Kd.M (Kd.int .u8) _ _ _ ((Go.bits .and .i64 t152 t154) % 256) [.int .u8 ((Go.bits .and .i64 t152 t154) % 256)] from rfl) (Reps.one (show Kd.M (Kd.int .u8) _ _ _ ((t156) % 256) [.int .u8 ((t156) % 256)] from rfl) (Reps.none _ _))))); intro v159 w27 ho28 hb hg_ hnew_; clear hg_ hnew_; (first | rw [← Ny158.out] at ho28 | (simp only [Int.reduceToNat] at ho28; rw [← Ny158.out] at ho28)); have n0_ := Aside0.mk (Kd.R_elder' (by (with_reducible repeat (first | apply Kd.R_alloc | apply Kd.R_drewN | apply Kd.R_drew)); exact HO136.out) (Kd.R_base ho28) hb); have n1_ := Aside0.mk (Kd.R_lower (Kd.R_new' ho28 (Kd.R_lt (by (with_reducible repeat (first | apply Kd.R_alloc | apply Kd.R_drewN | apply Kd.R_drew)); exact HO136.out))) (keep_size (w := w) (g := g) (row := none) (by repeat (first | (with_reducible first | exact HK.out | apply KeepBut.set_ | apply keep_drewN | apply keep_drew | apply keep_alloc) | exact HK.out)))); have n2_ := Aside0.mk (IsS107.below (by repeat (first | (with_reducible first | exact HI0.out | apply IsS107.alloc | apply IsS107.drewN | apply IsS107.drew | apply IsS107.set_1) | exact HI0.out)) hb); have n3_ := Aside0.mk (KeepBut.trans (by repeat (first | (with_reducible first | exact HK.out | apply KeepBut.set_ | apply keep_drewN | apply keep_drew | apply keep_alloc) | exact HK.out)) (KeepBut.of_below hb g none) (.inl rfl)); have n4_ := Aside0.mk (below_step (by repeat (first | (with_reducible first | exact HB.out | apply below_alloc | apply pw_below_drewN | apply below_drew1 | refine below_set ?_ (IsS107.ge HI0.out)) | exact HB.out)) hb); clear HO136; clear HI0; clear HK; clear HB; have HO136 := n0_; have HO160 := n1_; have HI0 := n2_; have HK := n3_; have HB := n4_; clear n0_ n1_ n2_ n3_ n4_; clear hb ho28; obtain ⟨Ao30, co30, eo30⟩ := Kd.R_slice HO160.out; subst eo30) | ((with_reducible refine gate_builtin (b := .append) (xs := #[.tmp 18, .tmp 29]) rfl ?_); at_builtin; refine Kd.R_append_rows (Kd.int .u8) w.heap.size rfl (.tmp 18) (.tmp 29) 29 5 (.int .u8 0) 1 rfl Try.underlying29 info5 rfl (by decide) (by omega) v135 t134 y158 _ _ _ (fun k_ => some k_ ≠ (.slice Ao30 y158.length co30 : Value).ownBlock) (fun _ => False) rfl rfl ?aO ?aR (fun _ _ h => h) (fun _ h => h.elim) ?aF (Below.refl _ _) ?aS ?aL ?_; (case aR => repeat (first | exact (Kd.R_reads' HO160.out).2.2 | (with_reducible refine Kd.C_alloc ?_ _) | (with_reducible refine Kd.C_drewN ?_ _) | (with_reducible refine Kd.C_drew ?_))); (case aF => exact (fun k_ hk => Kd.fresh' (Kd.R_lt (by (with_reducible repeat (first | apply Kd.R_alloc | apply Kd.R_drewN | apply Kd.R_drew)); exact HO160.out)) k_ hk)); (case aO => exact (by (with_reducible repeat (first | apply Kd.R_alloc | apply Kd.R_drewN | apply Kd.R_drew)); exact Kd.R_mono HO136.out (fun _ hk => hk.2))); (case aS => exact (keep_size (w := w) (g := g) (row := none) (by repeat (first | (with_reducible first | exact HK.out | apply KeepBut.set_ | apply keep_drewN | apply keep_drew | apply keep_alloc) | exact HK.out)))); (case aL => have := LMc21.out; omega); intro v162 w29 ho hb hg hat; rw [← Ny161.out] at ho; have n0_ := Aside0.mk (IsS107.grown (by repeat (first | (with_reducible first | exact HI0.out | apply IsS107.alloc | apply IsS107.drewN | apply IsS107.drew | apply IsS107.set_1) | exact HI0.out)) hg (IsS107.own_ne HI0.out HO136.out (by decide))); have n1_ := Aside0.mk (Kd.R_after (ok := (fun _ => True)) (by (with_reducible repeat (first | apply Kd.R_alloc | apply Kd.R_drewN | apply Kd.R_drew)); exact HO160.out) hg hat); have n2_ := Aside0.mk (below_weaken (by repeat (first | (with_reducible first | exact HB.out | apply below_alloc | apply pw_below_drewN | apply below_drew1 | refine below_set ?_ (IsS107.ge HI0.out)) | exact HB.out)) HL.out hb); have n3_ := Aside0.mk (KeepBut.trans (by repeat (first | (with_reducible first | exact HK.out | apply KeepBut.set_ | apply keep_drewN | apply keep_drew | apply keep_alloc) | exact HK.out)) (KeepBut.of_grown hg g) (Kd.R_base2 HO136.out)); have n4_ := Aside0.mk (ho); clear HI0; clear HO160; clear HB; clear HK; clear HO136; have HI0 := n0_; have HO160 := n1_; have HB := n2_; have HK := n3_; have HO163 := n4_; clear n0_ n1_ n2_ n3_ n4_; clear ho hb hg hat))
      go_ret
      exact ⟨_, by first | rfl | (simp [errW_none, errW_some] <;> rfl) | (simp [*, errW_none, errW_some] <;> rfl), by (with_reducible repeat (first | apply Kd.R_alloc | apply Kd.R_drewN | apply Kd.R_drew)); exact Kd.R_mono HO163.out (fun _ hk => trivial), by repeat (first | (with_reducible first | exact HI0.out | apply IsS107.alloc | apply IsS107.drewN | apply IsS107.drew | apply IsS107.set_1) | exact HI0.out), by repeat (first | (with_reducible first | exact HB.out | apply below_alloc | apply pw_below_drewN | apply below_drew1 | refine below_set ?_ (IsS107.ge HI0.out)) | exact HB.out), by repeat (first | (with_reducible first | exact HK.out | apply KeepBut.set_ | apply keep_drewN | apply keep_drew | apply keep_alloc) | exact HK.out)⟩
    · rw [if_neg c21] at H
      exact absurd H (by simp)

def spec_l3Key.f (k : Nat) (s0_0 : List Int) (s0_1 : Int) (a1 : Int) : Option (Int × Int × List Int × Int) := (spec_l1R_next.f s0_0 s0_1).bind fun bt165 => (if bt165.1 > 200 then ((spec_l1Some.f k s0_0 bt165.2 16).bind fun bt168 => (some (a1, bt165.1, bt168.1, bt168.2))) else ((spec_l1Some.f k s0_0 bt165.2 16).bind fun bt172 => (some (a1, Int.tmod bt165.1 4, bt172.1, bt172.2))))
set_option maxHeartbeats 8000000 in
set_option maxRecDepth 100000 in
theorem spec_l3Key.calls (k : Nat) (g : Nat) (s0_0 : List Int) (s0_1 : Int) (a1 : Int) (r1 : Int) (r2 : Int) (r3 : List Int) (r4 : Int) (w0 w : World) (hI : IsS107 w0 w g s0_0 s0_1) (hB : Below w0.heap.size w0 w) (h : spec_l3Key.f k s0_0 s0_1 a1 = some (r1, r2, r3, r4)) :
    Calls Try.prog 88 #[.pointer (some ⟨g, 0, none⟩), .int .i64 a1] w fun e w' => ∃ v2_ : Value, e = .returned (.agg #[.int .i64 r1, .int .i64 r2, v2_]) ∧ Kd.R (Kd.int .u8) 5 w' w.heap.size (fun _ => True) v2_ r3 ∧ IsS107 w0 w' g s0_0 r4 ∧ Below w0.heap.size w0 w' ∧ KeepBut w w' g none := by
  have hu143 := Try.underlying143
  have HI0 := Aside0.mk hI
  have HK := Aside0.mk (KeepBut.refl w g none)
  have HL := Aside0.mk hB.size
  clear hI
  have HW0 := Aside0.mk hB.size
  have HB := Aside0.mk hB
  clear hB
  have H : ((spec_l1R_next.f s0_0 s0_1).bind fun bt165 => (if bt165.1 > 200 then ((spec_l1Some.f k s0_0 bt165.2 16).bind fun bt168 => (some (a1, bt165.1, bt168.1, bt168.2))) else ((spec_l1Some.f k s0_0 bt165.2 16).bind fun bt172 => (some (a1, Int.tmod bt165.1 4, bt172.1, bt172.2))))) = some (r1, r2, r3, r4) := h
  clear h
  replace H := Option.bind_eq_some_iff.mp H
  obtain ⟨⟨t165, t166⟩, A30, H⟩ := H
  replace H : (if t165 > 200 then ((spec_l1Some.f k s0_0 t166 16).bind fun bt168 => (some (a1, t165, bt168.1, bt168.2))) else ((spec_l1Some.f k s0_0 t166 16).bind fun bt172 => (some (a1, Int.tmod t165 4, bt172.1, bt172.2)))) = some (r1, r2, r3, r4) := H
  have A3 := Aside0.mk A30
  clear A30
  by_cases c4 : t165 > 200
  · rw [if_pos c4] at H
    have c4b0 : decide (200 < t165) = true := decide_eq_true c4
    clear c4
    replace H := Option.bind_eq_some_iff.mp H
    obtain ⟨⟨t168, t171⟩, A50, H⟩ := H
    replace H : (some (a1, t165, t168, t171)) = some (r1, r2, r3, r4) := H
    have A5 := Aside0.mk A50
    clear A50
    simp only [Option.some.injEq, Prod.mk.injEq] at H
    obtain ⟨rfl, rfl, rfl, rfl⟩ := H
    go_enter Try.func88, Try.ntmps88
    go_wp2_with (first | ((with_reducible refine gate_dst (N := 4) rfl ?_); refine box_event ?hg (N := 4) ?hd (cs := #[.int .i64 0, .int .i64 0, .slice none 0 0]) (t := 143) ?hr ?_; (case hd => rfl); (case hg => rfl); (case hr => first | (go_simp; done) | (go_simp; rfl)); intro gb164 hg w6 hbox hb; have n0_ := Aside0.mk (IsS107.below (by repeat (first | (with_reducible first | exact HI0.out | apply IsS107.alloc | apply IsS107.drewN | apply IsS107.drew | apply IsS107.set_1) | exact HI0.out)) hb); have n1_ := Aside0.mk (KeepBut.trans (by repeat (first | (with_reducible first | exact HK.out | apply KeepBut.set_ | apply keep_drewN | apply keep_drew | apply keep_alloc) | exact HK.out)) (KeepBut.of_below hb g none) (.inl rfl)); have n2_ := Aside0.mk (below_step (by repeat (first | (with_reducible first | exact HB.out | apply below_alloc | apply pw_below_drewN | apply below_drew1 | refine below_set ?_ (IsS107.ge HI0.out)) | exact HB.out)) hb); have n3_ := Aside0.mk (hbox); have n4_ := Aside0.mk ((by rw [hg]; exact (keep_size (w := w) (g := g) (row := none) (by repeat (first | (with_reducible first | exact HK.out | apply KeepBut.set_ | apply keep_drewN | apply keep_drew | apply keep_alloc) | exact HK.out))) : w.heap.size ≤ gb164)); have n5_ := Aside0.mk ((Nat.le_trans HW0.out (by rw [hg]; exact (keep_size (w := w) (g := g) (row := none) (by repeat (first | (with_reducible first | exact HK.out | apply KeepBut.set_ | apply keep_drewN | apply keep_drew | apply keep_alloc) | exact HK.out))) : w.heap.size ≤ gb164) : w0.heap.size ≤ gb164)); have n6_ := Aside0.mk ((by rw [hg]; exact Nat.ne_of_lt (IsS107.lt (show IsS107 w0 _ g s0_0 s0_1 from by repeat (first | (with_reducible first | exact HI0.out | apply IsS107.alloc | apply IsS107.drewN | apply IsS107.drew | apply IsS107.set_1) | exact HI0.out))) : g ≠ gb164)); have n7_ := Aside0.mk ((by rw [hg]; exact Nat.ne_of_gt (IsS107.lt (show IsS107 w0 _ g s0_0 s0_1 from by repeat (first | (with_reducible first | exact HI0.out | apply IsS107.alloc | apply IsS107.drewN | apply IsS107.drew | apply IsS107.set_1) | exact HI0.out))) : gb164 ≠ g)); clear HI0; clear HK; clear HB; have HI0 := n0_; have HK := n1_; have HB := n2_; have BK164 := n3_; have GW164 := n4_; have GE164 := n5_; have NB0_164 := n6_; have NB164_0 := n7_; clear n0_ n1_ n2_ n3_ n4_ n5_ n6_ n7_; clear hb hbox hg) | ((with_reducible refine gate_callee (f := 70) rfl ?_); refine goesL_ (some 8) rfl rfl Try.func70 (by kernel_rfl) rfl #[.pointer (some ⟨g, 0, none⟩)] rfl (by (try simp only [List.map_toArray, List.map_cons, List.map_nil]); first | done | rfl | (simp only [List.length_drop, List.length_take]; rfl)) ?_; (with_reducible refine (spec_l1R_next.calls g s0_0 s0_1 t165 t166 w0 _ ?side1 ?side2 A3.out).mono ?_); (case side1 => repeat (first | (with_reducible first | exact HI0.out | apply IsS107.alloc | apply IsS107.drewN | apply IsS107.drew | apply IsS107.set_1 | refine IsS107.far ?_ NB0_164.out _) | exact HI0.out)); (case side2 => repeat (first | (with_reducible first | exact HB.out | apply below_alloc | apply pw_below_drewN | apply below_drew1 | refine below_set ?_ (IsS107.ge HI0.out) | refine below_set ?_ GE164.out) | exact HB.out)); rintro e w7 ⟨rfl, hi, hb, hk⟩; refine ⟨_, rfl, ?_⟩; have n0_ := Aside0.mk (KeepBut.blk hk (g' := gb164) (o := .cells #[.int .i64 0, .int .i64 0, .slice none 0 0] 143 (0, 0)) (by (with_reducible repeat (first | refine blk_drewN ?_ _ | refine blk_drew ?_ | refine blk_alloc ?_ _)); exact BK164.out) NB164_0.out (by simp)); have n1_ := Aside0.mk (KeepBut.trans (by repeat (first | (with_reducible first | exact HK.out | apply KeepBut.set_ | apply keep_drewN | apply keep_drew | apply keep_alloc | refine keep_far ?_ GW164.out _) | exact HK.out)) hk (.inl rfl)); have n2_ := Aside0.mk (hb); have n3_ := Aside0.mk (hi); clear BK164; clear HK; clear HB; clear HI0; have BK164 := n0_; have HK := n1_; have HB := n2_; have HI0 := n3_; clear n0_ n1_ n2_ n3_; (try clear hb); (try clear hb2); (try clear hk); (try clear hi)) | ((with_reducible refine gate_dst (N := 6) rfl ?_); refine box_event ?hg (N := 6) ?hd (cs := #[.int .i64 0, .int .i64 0, .slice none 0 0]) (t := 143) ?hr ?_; (case hd => rfl); (case hg => rfl); (case hr => first | (go_simp; done) | (go_simp; rfl)); intro gb167 hg w8 hbox hb; have n0_ := Aside0.mk (IsS107.below (by repeat (first | (with_reducible first | exact HI0.out | apply IsS107.alloc | apply IsS107.drewN | apply IsS107.drew | apply IsS107.set_1 | refine IsS107.far ?_ NB0_164.out _) | exact HI0.out)) hb); have n1_ := Aside0.mk (blk_below (g := gb164) (o := .cells #[.int .i64 0, .int .i64 0, .slice none 0 0] 143 (0, 0)) (by (with_reducible repeat (first | refine blk_drewN ?_ _ | refine blk_drew ?_ | refine blk_alloc ?_ _)); exact BK164.out) hb); have n2_ := Aside0.mk (KeepBut.trans (by repeat (first | (with_reducible first | exact HK.out | apply KeepBut.set_ | apply keep_drewN | apply keep_drew | apply keep_alloc | refine keep_far ?_ GW164.out _) | exact HK.out)) (KeepBut.of_below hb g none) (.inl rfl)); have n3_ := Aside0.mk (below_step (by repeat (first | (with_reducible first | exact HB.out | apply below_alloc | apply pw_below_drewN | apply below_drew1 | refine below_set ?_ (IsS107.ge HI0.out) | refine below_set ?_ GE164.out) | exact HB.out)) hb); have n4_ := Aside0.mk (hbox); have n5_ := Aside0.mk ((by rw [hg]; exact (keep_size (w := w) (g := g) (row := none) (by repeat (first | (with_reducible first | exact HK.out | apply KeepBut.set_ | apply keep_drewN | apply keep_drew | apply keep_alloc | refine keep_far ?_ GW164.out _) | exact HK.out))) : w.heap.size ≤ gb167)); have n6_ := Aside0.mk ((Nat.le_trans HW0.out (by rw [hg]; exact (keep_size (w := w) (g := g) (row := none) (by repeat (first | (with_reducible first | exact HK.out | apply KeepBut.set_ | apply keep_drewN | apply keep_drew | apply keep_alloc | refine keep_far ?_ GW164.out _) | exact HK.out))) : w.heap.size ≤ gb167) : w0.heap.size ≤ gb167)); have n7_ := Aside0.mk ((by rw [hg]; exact Nat.ne_of_lt (blk_lt (g := gb164) (o := .cells #[.int .i64 0, .int .i64 0, .slice none 0 0] 143 (0, 0)) (by (with_reducible repeat (first | refine blk_drewN ?_ _ | refine blk_drew ?_ | refine blk_alloc ?_ _)); exact BK164.out)) : gb164 ≠ gb167)); have n8_ := Aside0.mk ((by rw [hg]; exact Nat.ne_of_gt (blk_lt (g := gb164) (o := .cells #[.int .i64 0, .int .i64 0, .slice none 0 0] 143 (0, 0)) (by (with_reducible repeat (first | refine blk_drewN ?_ _ | refine blk_drew ?_ | refine blk_alloc ?_ _)); exact BK164.out)) : gb167 ≠ gb164)); have n9_ := Aside0.mk ((by rw [hg]; exact Nat.ne_of_lt (IsS107.lt (show IsS107 w0 _ g s0_0 t166 from by repeat (first | (with_reducible first | exact HI0.out | apply IsS107.alloc | apply IsS107.drewN | apply IsS107.drew | apply IsS107.set_1 | refine IsS107.far ?_ NB0_164.out _) | exact HI0.out))) : g ≠ gb167)); have n10_ := Aside0.mk ((by rw [hg]; exact Nat.ne_of_gt (IsS107.lt (show IsS107 w0 _ g s0_0 t166 from by repeat (first | (with_reducible first | exact HI0.out | apply IsS107.alloc | apply IsS107.drewN | apply IsS107.drew | apply IsS107.set_1 | refine IsS107.far ?_ NB0_164.out _) | exact HI0.out))) : gb167 ≠ g)); clear HI0; clear BK164; clear HK; clear HB; have HI0 := n0_; have BK164 := n1_; have HK := n2_; have HB := n3_; have BK167 := n4_; have GW167 := n5_; have GE167 := n6_; have NB164_167 := n7_; have NB167_164 := n8_; have NB0_167 := n9_; have NB167_0 := n10_; clear n0_ n1_ n2_ n3_ n4_ n5_ n6_ n7_ n8_ n9_ n10_; clear hb hbox hg; have hnb9 := NB167_164.out; have hnc9 := NB164_167.out; have hnb10 := NB167_0.out; have hnc10 := NB0_167.out; have hcz11_0 : w8.cell? ⟨gb167, 0, none⟩ = some (.int .i64 0) := (blk_cell BK167.out 0).trans rfl; have hcz11_1 : w8.cell? ⟨gb167, 1, none⟩ = some (.int .i64 0) := (blk_cell BK167.out 1).trans rfl; have hcz11_2 : w8.cell? ⟨gb167, 2, none⟩ = some (.slice none 0 0) := (blk_cell BK167.out 2).trans rfl; have hfz11_0 := blk_frozen BK167.out 0; have hfz11_1 := blk_frozen BK167.out 1; have hfz11_2 := blk_frozen BK167.out 2) | ((with_reducible refine gate_callee (f := 93) rfl ?_); refine goesL_ (some 18) rfl rfl Try.func93 (by kernel_rfl) rfl #[.pointer (some ⟨g, 0, none⟩), .int .i64 16] rfl (by (try simp only [List.map_toArray, List.map_cons, List.map_nil]); first | done | rfl | (simp only [List.length_drop, List.length_take]; rfl)) ?_; (with_reducible refine (spec_l1Some.calls k g s0_0 t166 16 t168 t171 w0 _ ?side1 ?side2 A5.out).mono ?_); (case side1 => repeat (first | (with_reducible first | exact HI0.out | apply IsS107.alloc | apply IsS107.drewN | apply IsS107.drew | apply IsS107.set_1 | refine IsS107.far ?_ NB0_164.out _ | refine IsS107.far ?_ NB0_167.out _) | exact HI0.out)); (case side2 => repeat (first | (with_reducible first | exact HB.out | apply below_alloc | apply pw_below_drewN | apply below_drew1 | refine below_set ?_ (IsS107.ge HI0.out) | refine below_set ?_ GE164.out | refine below_set ?_ GE167.out) | exact HB.out)); rintro e w12 ⟨v169, rfl, ho0, hi, hb, hk⟩; refine ⟨_, rfl, ?_⟩; have n0_ := Aside0.mk (KeepBut.blk hk (g' := gb164) (o := .cells #[.int .i64 0, .int .i64 0, .slice none 0 0] 143 (0, 0)) (by (with_reducible repeat (first | refine blk_drewN ?_ _ | refine blk_drew ?_ | refine blk_alloc ?_ _)); refine blk_far ?_ NB164_167.out _; (with_reducible repeat (first | refine blk_drewN ?_ _ | refine blk_drew ?_ | refine blk_alloc ?_ _)); refine blk_far ?_ NB164_167.out _; (with_reducible repeat (first | refine blk_drewN ?_ _ | refine blk_drew ?_ | refine blk_alloc ?_ _)); refine blk_far ?_ NB164_167.out _; (with_reducible repeat (first | refine blk_drewN ?_ _ | refine blk_drew ?_ | refine blk_alloc ?_ _)); refine blk_far ?_ NB164_167.out _; (with_reducible repeat (first | refine blk_drewN ?_ _ | refine blk_drew ?_ | refine blk_alloc ?_ _)); exact BK164.out) NB164_0.out (by simp)); have n1_ := Aside0.mk (KeepBut.blk hk (g' := gb167) (o := .cells #[.int .i64 a1, .int .i64 t165, .slice none 0 0] 143 (0, 0)) (by (with_reducible repeat (first | refine blk_drewN ?_ _ | refine blk_drew ?_ | refine blk_alloc ?_ _)); refine blk_put (cs := #[.int .i64 a1, .int .i64 (Int.tmod t165 4), .slice none 0 0]) ?_ 1 _ rfl; (with_reducible repeat (first | refine blk_drewN ?_ _ | refine blk_drew ?_ | refine blk_alloc ?_ _)); refine blk_put (cs := #[.int .i64 a1, .int .i64 (Int.tmod t165 4), .slice none 0 0]) ?_ 2 _ rfl; (with_reducible repeat (first | refine blk_drewN ?_ _ | refine blk_drew ?_ | refine blk_alloc ?_ _)); refine blk_put (cs := #[.int .i64 a1, .int .i64 0, .slice none 0 0]) ?_ 1 _ rfl; (with_reducible repeat (first | refine blk_drewN ?_ _ | refine blk_drew ?_ | refine blk_alloc ?_ _)); refine blk_put (cs := #[.int .i64 0, .int .i64 0, .slice none 0 0]) ?_ 0 _ rfl; (with_reducible repeat (first | refine blk_drewN ?_ _ | refine blk_drew ?_ | refine blk_alloc ?_ _)); exact BK167.out) NB167_0.out (by simp)); have n2_ := Aside0.mk (Kd.R_lower ho0 (keep_size (w := w) (g := g) (row := none) (by repeat (first | (with_reducible first | exact HK.out | apply KeepBut.set_ | apply keep_drewN | apply keep_drew | apply keep_alloc | refine keep_far ?_ GW164.out _ | refine keep_far ?_ GW167.out _) | exact HK.out)))); have n3_ := Aside0.mk (KeepBut.trans (by repeat (first | (with_reducible first | exact HK.out | apply KeepBut.set_ | apply keep_drewN | apply keep_drew | apply keep_alloc | refine keep_far ?_ GW164.out _ | refine keep_far ?_ GW167.out _) | exact HK.out)) hk (.inl rfl)); have n4_ := Aside0.mk (hb); have n5_ := Aside0.mk (hi); clear BK164; clear BK167; clear HK; clear HB; clear HI0; have BK164 := n0_; have BK167 := n1_; have HO170 := n2_; have HK := n3_; have HB := n4_; have HI0 := n5_; clear n0_ n1_ n2_ n3_ n4_ n5_; (try clear hb); (try clear hb2); (try clear hk); (try clear hi); (try clear ho0); obtain ⟨Ao13, co13, eo13⟩ := Kd.R_slice HO170.out; subst eo13; have hcz14_0 : w12.cell? ⟨gb167, 0, none⟩ = some (.int .i64 a1) := (blk_cell BK167.out 0).trans rfl; have hcz14_1 : w12.cell? ⟨gb167, 1, none⟩ = some (.int .i64 t165) := (blk_cell BK167.out 1).trans rfl; have hcz14_2 : w12.cell? ⟨gb167, 2, none⟩ = some (.slice none 0 0) := (blk_cell BK167.out 2).trans rfl; have hfz14_0 := blk_frozen BK167.out 0; have hfz14_1 := blk_frozen BK167.out 1; have hfz14_2 := blk_frozen BK167.out 2; have hnb15 := NB164_0.out; have hnc15 := NB0_164.out; have hcz16_0 : w12.cell? ⟨gb164, 0, none⟩ = some (.int .i64 0) := (blk_cell BK164.out 0).trans rfl; have hcz16_1 : w12.cell? ⟨gb164, 1, none⟩ = some (.int .i64 0) := (blk_cell BK164.out 1).trans rfl; have hcz16_2 : w12.cell? ⟨gb164, 2, none⟩ = some (.slice none 0 0) := (blk_cell BK164.out 2).trans rfl; have hfz16_0 := blk_frozen BK164.out 0; have hfz16_1 := blk_frozen BK164.out 1; have hfz16_2 := blk_frozen BK164.out 2))
    refine bodyPost_ret (results_cell_row rfl _ _ gb164 143 #[.int .i64 a1, .int .i64 t165, .slice Ao13 t168.length co13] (0, 0) _ rfl (by (with_reducible repeat (first | refine blk_drewN ?_ _ | refine blk_drew ?_ | refine blk_alloc ?_ _)); refine blk_put (cs := #[.int .i64 a1, .int .i64 t165, .slice none 0 0]) ?_ 2 _ rfl; (with_reducible repeat (first | refine blk_drewN ?_ _ | refine blk_drew ?_ | refine blk_alloc ?_ _)); refine blk_put (cs := #[.int .i64 a1, .int .i64 0, .slice none 0 0]) ?_ 1 _ rfl; (with_reducible repeat (first | refine blk_drewN ?_ _ | refine blk_drew ?_ | refine blk_alloc ?_ _)); refine blk_put (cs := #[.int .i64 0, .int .i64 0, .slice none 0 0]) ?_ 0 _ rfl; (with_reducible repeat (first | refine blk_drewN ?_ _ | refine blk_drew ?_ | refine blk_alloc ?_ _)); refine blk_far ?_ NB164_167.out _; (with_reducible repeat (first | refine blk_drewN ?_ _ | refine blk_drew ?_ | refine blk_alloc ?_ _)); exact BK164.out) Try.underlying143 rfl (by kernel_rfl)) rfl ?_
    exact ⟨_, by first | rfl | (simp [errW_none, errW_some] <;> rfl) | (simp [*, errW_none, errW_some] <;> rfl), by (with_reducible repeat (first | apply Kd.R_alloc | apply Kd.R_drewN | apply Kd.R_drew)); exact Kd.R_mono (Kd.R_far (p := ⟨gb164, 2, none⟩) (Kd.R_far (p := ⟨gb164, 1, none⟩) (Kd.R_far (p := ⟨gb164, 0, none⟩) (Kd.R_far (p := ⟨gb167, 2, none⟩) (Kd.R_types (Kd.R_types HO170.out BK167.out (by decide)) BK164.out (by decide)) (fun _ hk => hk.1.2) (.slice Ao13 t168.length co13)) (fun _ hk => hk.2) (.int .i64 a1)) (fun _ hk => hk.2) (.int .i64 t165)) (fun _ hk => hk.2) (.slice Ao13 t168.length co13)) (fun _ hk => trivial), by repeat (first | (with_reducible first | exact HI0.out | apply IsS107.alloc | apply IsS107.drewN | apply IsS107.drew | apply IsS107.set_1 | refine IsS107.far ?_ NB0_164.out _ | refine IsS107.far ?_ NB0_167.out _) | exact HI0.out), by repeat (first | (with_reducible first | exact HB.out | apply below_alloc | apply pw_below_drewN | apply below_drew1 | refine below_set ?_ (IsS107.ge HI0.out) | refine below_set ?_ GE164.out | refine below_set ?_ GE167.out) | exact HB.out), by repeat (first | (with_reducible first | exact HK.out | apply KeepBut.set_ | apply keep_drewN | apply keep_drew | apply keep_alloc | refine keep_far ?_ GW164.out _ | refine keep_far ?_ GW167.out _) | exact HK.out)⟩
  · rw [if_neg c4] at H
    have c4b0 : decide (200 < t165) = false := decide_eq_false c4
    clear c4
    replace H := Option.bind_eq_some_iff.mp H
    obtain ⟨⟨t172, t175⟩, A170, H⟩ := H
    replace H : (some (a1, Int.tmod t165 4, t172, t175)) = some (r1, r2, r3, r4) := H
    have A17 := Aside0.mk A170
    clear A170
    simp only [Option.some.injEq, Prod.mk.injEq] at H
    obtain ⟨rfl, rfl, rfl, rfl⟩ := H
    go_enter Try.func88, Try.ntmps88
    go_wp2_with (first | ((with_reducible refine gate_dst (N := 4) rfl ?_); refine box_event ?hg (N := 4) ?hd (cs := #[.int .i64 0, .int .i64 0, .slice none 0 0]) (t := 143) ?hr ?_; (case hd => rfl); (case hg => rfl); (case hr => first | (go_simp; done) | (go_simp; rfl)); intro gb164 hg w18 hbox hb; have n0_ := Aside0.mk (IsS107.below (by repeat (first | (with_reducible first | exact HI0.out | apply IsS107.alloc | apply IsS107.drewN | apply IsS107.drew | apply IsS107.set_1) | exact HI0.out)) hb); have n1_ := Aside0.mk (KeepBut.trans (by repeat (first | (with_reducible first | exact HK.out | apply KeepBut.set_ | apply keep_drewN | apply keep_drew | apply keep_alloc) | exact HK.out)) (KeepBut.of_below hb g none) (.inl rfl)); have n2_ := Aside0.mk (below_step (by repeat (first | (with_reducible first | exact HB.out | apply below_alloc | apply pw_below_drewN | apply below_drew1 | refine below_set ?_ (IsS107.ge HI0.out)) | exact HB.out)) hb); have n3_ := Aside0.mk (hbox); have n4_ := Aside0.mk ((by rw [hg]; exact (keep_size (w := w) (g := g) (row := none) (by repeat (first | (with_reducible first | exact HK.out | apply KeepBut.set_ | apply keep_drewN | apply keep_drew | apply keep_alloc) | exact HK.out))) : w.heap.size ≤ gb164)); have n5_ := Aside0.mk ((Nat.le_trans HW0.out (by rw [hg]; exact (keep_size (w := w) (g := g) (row := none) (by repeat (first | (with_reducible first | exact HK.out | apply KeepBut.set_ | apply keep_drewN | apply keep_drew | apply keep_alloc) | exact HK.out))) : w.heap.size ≤ gb164) : w0.heap.size ≤ gb164)); have n6_ := Aside0.mk ((by rw [hg]; exact Nat.ne_of_lt (IsS107.lt (show IsS107 w0 _ g s0_0 s0_1 from by repeat (first | (with_reducible first | exact HI0.out | apply IsS107.alloc | apply IsS107.drewN | apply IsS107.drew | apply IsS107.set_1) | exact HI0.out))) : g ≠ gb164)); have n7_ := Aside0.mk ((by rw [hg]; exact Nat.ne_of_gt (IsS107.lt (show IsS107 w0 _ g s0_0 s0_1 from by repeat (first | (with_reducible first | exact HI0.out | apply IsS107.alloc | apply IsS107.drewN | apply IsS107.drew | apply IsS107.set_1) | exact HI0.out))) : gb164 ≠ g)); clear HI0; clear HK; clear HB; have HI0 := n0_; have HK := n1_; have HB := n2_; have BK164 := n3_; have GW164 := n4_; have GE164 := n5_; have NB0_164 := n6_; have NB164_0 := n7_; clear n0_ n1_ n2_ n3_ n4_ n5_ n6_ n7_; clear hb hbox hg) | ((with_reducible refine gate_callee (f := 70) rfl ?_); refine goesL_ (some 8) rfl rfl Try.func70 (by kernel_rfl) rfl #[.pointer (some ⟨g, 0, none⟩)] rfl (by (try simp only [List.map_toArray, List.map_cons, List.map_nil]); first | done | rfl | (simp only [List.length_drop, List.length_take]; rfl)) ?_; (with_reducible refine (spec_l1R_next.calls g s0_0 s0_1 t165 t166 w0 _ ?side1 ?side2 A3.out).mono ?_); (case side1 => repeat (first | (with_reducible first | exact HI0.out | apply IsS107.alloc | apply IsS107.drewN | apply IsS107.drew | apply IsS107.set_1 | refine IsS107.far ?_ NB0_164.out _) | exact HI0.out)); (case side2 => repeat (first | (with_reducible first | exact HB.out | apply below_alloc | apply pw_below_drewN | apply below_drew1 | refine below_set ?_ (IsS107.ge HI0.out) | refine below_set ?_ GE164.out) | exact HB.out)); rintro e w19 ⟨rfl, hi, hb, hk⟩; refine ⟨_, rfl, ?_⟩; have n0_ := Aside0.mk (KeepBut.blk hk (g' := gb164) (o := .cells #[.int .i64 0, .int .i64 0, .slice none 0 0] 143 (0, 0)) (by (with_reducible repeat (first | refine blk_drewN ?_ _ | refine blk_drew ?_ | refine blk_alloc ?_ _)); exact BK164.out) NB164_0.out (by simp)); have n1_ := Aside0.mk (KeepBut.trans (by repeat (first | (with_reducible first | exact HK.out | apply KeepBut.set_ | apply keep_drewN | apply keep_drew | apply keep_alloc | refine keep_far ?_ GW164.out _) | exact HK.out)) hk (.inl rfl)); have n2_ := Aside0.mk (hb); have n3_ := Aside0.mk (hi); clear BK164; clear HK; clear HB; clear HI0; have BK164 := n0_; have HK := n1_; have HB := n2_; have HI0 := n3_; clear n0_ n1_ n2_ n3_; (try clear hb); (try clear hb2); (try clear hk); (try clear hi)) | ((with_reducible refine gate_dst (N := 6) rfl ?_); refine box_event ?hg (N := 6) ?hd (cs := #[.int .i64 0, .int .i64 0, .slice none 0 0]) (t := 143) ?hr ?_; (case hd => rfl); (case hg => rfl); (case hr => first | (go_simp; done) | (go_simp; rfl)); intro gb167 hg w20 hbox hb; have n0_ := Aside0.mk (IsS107.below (by repeat (first | (with_reducible first | exact HI0.out | apply IsS107.alloc | apply IsS107.drewN | apply IsS107.drew | apply IsS107.set_1 | refine IsS107.far ?_ NB0_164.out _) | exact HI0.out)) hb); have n1_ := Aside0.mk (blk_below (g := gb164) (o := .cells #[.int .i64 0, .int .i64 0, .slice none 0 0] 143 (0, 0)) (by (with_reducible repeat (first | refine blk_drewN ?_ _ | refine blk_drew ?_ | refine blk_alloc ?_ _)); exact BK164.out) hb); have n2_ := Aside0.mk (KeepBut.trans (by repeat (first | (with_reducible first | exact HK.out | apply KeepBut.set_ | apply keep_drewN | apply keep_drew | apply keep_alloc | refine keep_far ?_ GW164.out _) | exact HK.out)) (KeepBut.of_below hb g none) (.inl rfl)); have n3_ := Aside0.mk (below_step (by repeat (first | (with_reducible first | exact HB.out | apply below_alloc | apply pw_below_drewN | apply below_drew1 | refine below_set ?_ (IsS107.ge HI0.out) | refine below_set ?_ GE164.out) | exact HB.out)) hb); have n4_ := Aside0.mk (hbox); have n5_ := Aside0.mk ((by rw [hg]; exact (keep_size (w := w) (g := g) (row := none) (by repeat (first | (with_reducible first | exact HK.out | apply KeepBut.set_ | apply keep_drewN | apply keep_drew | apply keep_alloc | refine keep_far ?_ GW164.out _) | exact HK.out))) : w.heap.size ≤ gb167)); have n6_ := Aside0.mk ((Nat.le_trans HW0.out (by rw [hg]; exact (keep_size (w := w) (g := g) (row := none) (by repeat (first | (with_reducible first | exact HK.out | apply KeepBut.set_ | apply keep_drewN | apply keep_drew | apply keep_alloc | refine keep_far ?_ GW164.out _) | exact HK.out))) : w.heap.size ≤ gb167) : w0.heap.size ≤ gb167)); have n7_ := Aside0.mk ((by rw [hg]; exact Nat.ne_of_lt (blk_lt (g := gb164) (o := .cells #[.int .i64 0, .int .i64 0, .slice none 0 0] 143 (0, 0)) (by (with_reducible repeat (first | refine blk_drewN ?_ _ | refine blk_drew ?_ | refine blk_alloc ?_ _)); exact BK164.out)) : gb164 ≠ gb167)); have n8_ := Aside0.mk ((by rw [hg]; exact Nat.ne_of_gt (blk_lt (g := gb164) (o := .cells #[.int .i64 0, .int .i64 0, .slice none 0 0] 143 (0, 0)) (by (with_reducible repeat (first | refine blk_drewN ?_ _ | refine blk_drew ?_ | refine blk_alloc ?_ _)); exact BK164.out)) : gb167 ≠ gb164)); have n9_ := Aside0.mk ((by rw [hg]; exact Nat.ne_of_lt (IsS107.lt (show IsS107 w0 _ g s0_0 t166 from by repeat (first | (with_reducible first | exact HI0.out | apply IsS107.alloc | apply IsS107.drewN | apply IsS107.drew | apply IsS107.set_1 | refine IsS107.far ?_ NB0_164.out _) | exact HI0.out))) : g ≠ gb167)); have n10_ := Aside0.mk ((by rw [hg]; exact Nat.ne_of_gt (IsS107.lt (show IsS107 w0 _ g s0_0 t166 from by repeat (first | (with_reducible first | exact HI0.out | apply IsS107.alloc | apply IsS107.drewN | apply IsS107.drew | apply IsS107.set_1 | refine IsS107.far ?_ NB0_164.out _) | exact HI0.out))) : gb167 ≠ g)); clear HI0; clear BK164; clear HK; clear HB; have HI0 := n0_; have BK164 := n1_; have HK := n2_; have HB := n3_; have BK167 := n4_; have GW167 := n5_; have GE167 := n6_; have NB164_167 := n7_; have NB167_164 := n8_; have NB0_167 := n9_; have NB167_0 := n10_; clear n0_ n1_ n2_ n3_ n4_ n5_ n6_ n7_ n8_ n9_ n10_; clear hb hbox hg; have hnb21 := NB167_164.out; have hnc21 := NB164_167.out; have hnb22 := NB167_0.out; have hnc22 := NB0_167.out; have hcz23_0 : w20.cell? ⟨gb167, 0, none⟩ = some (.int .i64 0) := (blk_cell BK167.out 0).trans rfl; have hcz23_1 : w20.cell? ⟨gb167, 1, none⟩ = some (.int .i64 0) := (blk_cell BK167.out 1).trans rfl; have hcz23_2 : w20.cell? ⟨gb167, 2, none⟩ = some (.slice none 0 0) := (blk_cell BK167.out 2).trans rfl; have hfz23_0 := blk_frozen BK167.out 0; have hfz23_1 := blk_frozen BK167.out 1; have hfz23_2 := blk_frozen BK167.out 2) | ((with_reducible refine gate_callee (f := 93) rfl ?_); refine goesL_ (some 18) rfl rfl Try.func93 (by kernel_rfl) rfl #[.pointer (some ⟨g, 0, none⟩), .int .i64 16] rfl (by (try simp only [List.map_toArray, List.map_cons, List.map_nil]); first | done | rfl | (simp only [List.length_drop, List.length_take]; rfl)) ?_; (with_reducible refine (spec_l1Some.calls k g s0_0 t166 16 t172 t175 w0 _ ?side1 ?side2 A17.out).mono ?_); (case side1 => repeat (first | (with_reducible first | exact HI0.out | apply IsS107.alloc | apply IsS107.drewN | apply IsS107.drew | apply IsS107.set_1 | refine IsS107.far ?_ NB0_164.out _ | refine IsS107.far ?_ NB0_167.out _) | exact HI0.out)); (case side2 => repeat (first | (with_reducible first | exact HB.out | apply below_alloc | apply pw_below_drewN | apply below_drew1 | refine below_set ?_ (IsS107.ge HI0.out) | refine below_set ?_ GE164.out | refine below_set ?_ GE167.out) | exact HB.out)); rintro e w24 ⟨v173, rfl, ho0, hi, hb, hk⟩; refine ⟨_, rfl, ?_⟩; have n0_ := Aside0.mk (KeepBut.blk hk (g' := gb164) (o := .cells #[.int .i64 0, .int .i64 0, .slice none 0 0] 143 (0, 0)) (by (with_reducible repeat (first | refine blk_drewN ?_ _ | refine blk_drew ?_ | refine blk_alloc ?_ _)); refine blk_far ?_ NB164_167.out _; (with_reducible repeat (first | refine blk_drewN ?_ _ | refine blk_drew ?_ | refine blk_alloc ?_ _)); refine blk_far ?_ NB164_167.out _; (with_reducible repeat (first | refine blk_drewN ?_ _ | refine blk_drew ?_ | refine blk_alloc ?_ _)); refine blk_far ?_ NB164_167.out _; (with_reducible repeat (first | refine blk_drewN ?_ _ | refine blk_drew ?_ | refine blk_alloc ?_ _)); exact BK164.out) NB164_0.out (by simp)); have n1_ := Aside0.mk (KeepBut.blk hk (g' := gb167) (o := .cells #[.int .i64 a1, .int .i64 (Int.tmod t165 4), .slice none 0 0] 143 (0, 0)) (by (with_reducible repeat (first | refine blk_drewN ?_ _ | refine blk_drew ?_ | refine blk_alloc ?_ _)); refine blk_put (cs := #[.int .i64 a1, .int .i64 (Int.tmod t165 4), .slice none 0 0]) ?_ 2 _ rfl; (with_reducible repeat (first | refine blk_drewN ?_ _ | refine blk_drew ?_ | refine blk_alloc ?_ _)); refine blk_put (cs := #[.int .i64 a1, .int .i64 0, .slice none 0 0]) ?_ 1 _ rfl; (with_reducible repeat (first | refine blk_drewN ?_ _ | refine blk_drew ?_ | refine blk_alloc ?_ _)); refine blk_put (cs := #[.int .i64 0, .int .i64 0, .slice none 0 0]) ?_ 0 _ rfl; (with_reducible repeat (first | refine blk_drewN ?_ _ | refine blk_drew ?_ | refine blk_alloc ?_ _)); exact BK167.out) NB167_0.out (by simp)); have n2_ := Aside0.mk (Kd.R_lower ho0 (keep_size (w := w) (g := g) (row := none) (by repeat (first | (with_reducible first | exact HK.out | apply KeepBut.set_ | apply keep_drewN | apply keep_drew | apply keep_alloc | refine keep_far ?_ GW164.out _ | refine keep_far ?_ GW167.out _) | exact HK.out)))); have n3_ := Aside0.mk (KeepBut.trans (by repeat (first | (with_reducible first | exact HK.out | apply KeepBut.set_ | apply keep_drewN | apply keep_drew | apply keep_alloc | refine keep_far ?_ GW164.out _ | refine keep_far ?_ GW167.out _) | exact HK.out)) hk (.inl rfl)); have n4_ := Aside0.mk (hb); have n5_ := Aside0.mk (hi); clear BK164; clear BK167; clear HK; clear HB; clear HI0; have BK164 := n0_; have BK167 := n1_; have HO174 := n2_; have HK := n3_; have HB := n4_; have HI0 := n5_; clear n0_ n1_ n2_ n3_ n4_ n5_; (try clear hb); (try clear hb2); (try clear hk); (try clear hi); (try clear ho0); obtain ⟨Ao25, co25, eo25⟩ := Kd.R_slice HO174.out; subst eo25; have hcz26_0 : w24.cell? ⟨gb167, 0, none⟩ = some (.int .i64 a1) := (blk_cell BK167.out 0).trans rfl; have hcz26_1 : w24.cell? ⟨gb167, 1, none⟩ = some (.int .i64 (Int.tmod t165 4)) := (blk_cell BK167.out 1).trans rfl; have hcz26_2 : w24.cell? ⟨gb167, 2, none⟩ = some (.slice none 0 0) := (blk_cell BK167.out 2).trans rfl; have hfz26_0 := blk_frozen BK167.out 0; have hfz26_1 := blk_frozen BK167.out 1; have hfz26_2 := blk_frozen BK167.out 2; have hnb27 := NB164_0.out; have hnc27 := NB0_164.out; have hcz28_0 : w24.cell? ⟨gb164, 0, none⟩ = some (.int .i64 0) := (blk_cell BK164.out 0).trans rfl; have hcz28_1 : w24.cell? ⟨gb164, 1, none⟩ = some (.int .i64 0) := (blk_cell BK164.out 1).trans rfl; have hcz28_2 : w24.cell? ⟨gb164, 2, none⟩ = some (.slice none 0 0) := (blk_cell BK164.out 2).trans rfl; have hfz28_0 := blk_frozen BK164.out 0; have hfz28_1 := blk_frozen BK164.out 1; have hfz28_2 := blk_frozen BK164.out 2))
    refine bodyPost_ret (results_cell_row rfl _ _ gb164 143 #[.int .i64 a1, .int .i64 (Int.tmod t165 4), .slice Ao25 t172.length co25] (0, 0) _ rfl (by (with_reducible repeat (first | refine blk_drewN ?_ _ | refine blk_drew ?_ | refine blk_alloc ?_ _)); refine blk_put (cs := #[.int .i64 a1, .int .i64 (Int.tmod t165 4), .slice none 0 0]) ?_ 2 _ rfl; (with_reducible repeat (first | refine blk_drewN ?_ _ | refine blk_drew ?_ | refine blk_alloc ?_ _)); refine blk_put (cs := #[.int .i64 a1, .int .i64 0, .slice none 0 0]) ?_ 1 _ rfl; (with_reducible repeat (first | refine blk_drewN ?_ _ | refine blk_drew ?_ | refine blk_alloc ?_ _)); refine blk_put (cs := #[.int .i64 0, .int .i64 0, .slice none 0 0]) ?_ 0 _ rfl; (with_reducible repeat (first | refine blk_drewN ?_ _ | refine blk_drew ?_ | refine blk_alloc ?_ _)); refine blk_far ?_ NB164_167.out _; (with_reducible repeat (first | refine blk_drewN ?_ _ | refine blk_drew ?_ | refine blk_alloc ?_ _)); exact BK164.out) Try.underlying143 rfl (by kernel_rfl)) rfl ?_
    exact ⟨_, by first | rfl | (simp [errW_none, errW_some] <;> rfl) | (simp [*, errW_none, errW_some] <;> rfl), by (with_reducible repeat (first | apply Kd.R_alloc | apply Kd.R_drewN | apply Kd.R_drew)); exact Kd.R_mono (Kd.R_far (p := ⟨gb164, 2, none⟩) (Kd.R_far (p := ⟨gb164, 1, none⟩) (Kd.R_far (p := ⟨gb164, 0, none⟩) (Kd.R_far (p := ⟨gb167, 2, none⟩) (Kd.R_types (Kd.R_types HO174.out BK167.out (by decide)) BK164.out (by decide)) (fun _ hk => hk.1.2) (.slice Ao25 t172.length co25)) (fun _ hk => hk.2) (.int .i64 a1)) (fun _ hk => hk.2) (.int .i64 (Int.tmod t165 4))) (fun _ hk => hk.2) (.slice Ao25 t172.length co25)) (fun _ hk => trivial), by repeat (first | (with_reducible first | exact HI0.out | apply IsS107.alloc | apply IsS107.drewN | apply IsS107.drew | apply IsS107.set_1 | refine IsS107.far ?_ NB0_164.out _ | refine IsS107.far ?_ NB0_167.out _) | exact HI0.out), by repeat (first | (with_reducible first | exact HB.out | apply below_alloc | apply pw_below_drewN | apply below_drew1 | refine below_set ?_ (IsS107.ge HI0.out) | refine below_set ?_ GE164.out | refine below_set ?_ GE167.out) | exact HB.out), by repeat (first | (with_reducible first | exact HK.out | apply KeepBut.set_ | apply keep_drewN | apply keep_drew | apply keep_alloc | refine keep_far ?_ GW164.out _ | refine keep_far ?_ GW167.out _) | exact HK.out)⟩

end Go.Proofs.Ytiejallnkgllnaa.LQ
namespace Go.Proofs.Ytiejallnkgllnaa
open Go.RowKit Go.Proofs.YtiejallnkgllnaaW.PrintWords Go.Proofs.YtiejallnkgllnaaW.PrintLast Go.Proofs.YtiejallnkgllnaaW.PrintMore Go.Proofs.Ytiejallnkgllnaa.D
set_option linter.unusedVariables false
def badP : List PanicEntry := [{ v := .iface 78 (.agg #[]), recovered := false }]
set_option maxHeartbeats 1000000 in
theorem impl_must.ok (w : World) : Calls Try.prog 48 #[.bool true] w fun e w' => e = .returned (.tuple #[]) ∧ w' = w := by
  go_enter Try.func48, Try.ntmps48
  go_wp2
  go_end0
  exact ⟨rfl, rfl⟩
set_option maxHeartbeats 1000000 in
theorem impl_must.no (w : World) : Calls Try.prog 48 #[.bool false] w fun e w' => e = .panicked badP ∧ w' = w := by
  go_enter Try.func48, Try.ntmps48
  go_wp2
  exact ⟨rfl, rfl, rfl⟩
/-- The two digits of each byte. -/
def nibL (b : List Int) : List Int := b.flatMap fun x => [x / 16, x % 16]
theorem nibL_snoc (b : List Int) (x : Int) : nibL (b ++ [x]) = nibL b ++ [x / 16, x % 16] := by simp [nibL]
theorem nibL_nibs (b : List Int) (h : Bytes b) : Nibs (nibL b) := fun d hd => by
  obtain ⟨x, hx, hd⟩ := List.mem_flatMap.1 hd
  have := h x hx
  rcases List.mem_cons.1 hd with rfl | hd
  · omega
  · have := List.mem_singleton.1 hd
    omega
theorem nibL_length (b : List Int) : (nibL b).length = 2 * b.length := by
  induction b with
  | nil => rfl
  | cons x b ih =>
    have : nibL (x :: b) = x / 16 :: x % 16 :: nibL b := rfl
    rw [this, List.length_cons, List.length_cons, ih, List.length_cons]
    omega
def okAt (f n : Int) (i : Nat) (d : Int) : Bool := if (i : Int) < n then decide (d ≤ 9) else if f = 0 then decide (d = 15) else decide (10 ≤ d)
def rcOk (f : Int) (ds : List Int) : Bool := (decide (nth ds 0 = f) && (decide (4 ≤ nth ds 1) && decide (nth ds 1 ≤ 12))) && (List.range 14).all fun i => okAt f (nth ds 1) i (nth ds (2 + i))
/-- What readClear comes to. -/
def RCend (f : Int) (ds : List Int) (e : Ending) : Prop := if rcOk f ds = true then ∃ P : ByteArray, e = .returned (.string P) ∧ HexOf P ((ds.drop 2).take (nth ds 1).toNat) else e = .panicked badP
theorem rcOk_head {f : Int} {ds : List Int} (h : ¬ (nth ds 0 = f ∧ 4 ≤ nth ds 1 ∧ nth ds 1 ≤ 12)) : rcOk f ds = false := by
  cases hr : rcOk f ds with
  | false => rfl
  | true =>
    simp only [rcOk, Bool.and_eq_true, decide_eq_true_eq] at hr
    exact absurd ⟨hr.1.1, hr.1.2.1, hr.1.2.2⟩ h
theorem rcOk_at {f : Int} {ds : List Int} (i : Nat) (hi : i < 14) (h : okAt f (nth ds 1) i (nth ds (2 + i)) = false) : rcOk f ds = false := by
  cases hr : rcOk f ds with
  | false => rfl
  | true =>
    simp only [rcOk, Bool.and_eq_true] at hr
    have := List.all_eq_true.1 hr.2 i (List.mem_range.2 hi)
    rw [h] at this
    cases this
theorem rcOk_all {f : Int} {ds : List Int} (h0 : nth ds 0 = f) (h1 : 4 ≤ nth ds 1) (h2 : nth ds 1 ≤ 12) (h : ∀ i, i < 14 → okAt f (nth ds 1) i (nth ds (2 + i)) = true) : rcOk f ds = true := by
  simp only [rcOk, Bool.and_eq_true, decide_eq_true_eq]
  exact ⟨⟨h0, h1, h2⟩, List.all_eq_true.2 fun i hi => h i (List.mem_range.1 hi)⟩
theorem RC_no {f : Int} {ds : List Int} (h : rcOk f ds = false) : RCend f ds (.panicked badP) := by unfold RCend; rw [if_neg (by rw [h]; decide)]
theorem RC_yes {f : Int} {ds : List Int} (h : rcOk f ds = true) (P : ByteArray) (hp : HexOf P ((ds.drop 2).take (nth ds 1).toNat)) : RCend f ds (.returned (.string P)) := by unfold RCend; rw [if_pos h]; exact ⟨P, rfl, hp⟩
theorem HexOf.ext {s : ByteArray} {ds : List Int} (h : HexOf s ds) (a b : Nat) : HexOf (s.extract a b) ((ds.drop a).take (b - a)) := ⟨by rw [bI_extract, h.1, List.map_take, List.map_drop], (h.2.drop a).take _⟩
theorem pw_below_iter {B : Nat} {w W : World} (h : Below B w W) (s : ByteArray) (p : Nat) (hB : B ≤ W.heap.size) : Below B w (W.iter s p) := h.alloc hB _
theorem and15_u8 : ∀ n : Fin 256, Go.bits .and .u8 (n.val : Int) 15 = (n.val : Int) % 16 := by decide +kernel
theorem and15_of (x : Int) (h : 0 ≤ x ∧ x ≤ 255) : Go.bits .and .u8 x 15 = x % 16 := by
  have := and15_u8 ⟨x.toNat, by omega⟩
  simp only [Int.toNat_of_nonneg h.1] at this
  exact this

set_option maxHeartbeats 4000000 in
set_option maxRecDepth 100000 in
theorem impl_readClear.at (f : Int) (b : List Int) (w : World) (hf : f = 0 ∨ f = 3) (hl : b.length = 8) (hb : Bytes b) :
    Calls Try.prog 50 #[.int .i64 f, .agg (nums .u8 b).toArray] w fun e w' => RCend f (nibL b) e ∧ Below w.heap.size w w' := by
  obtain ⟨b0, b1, b2, b3, b4, b5, b6, b7, rfl⟩ := eight8 b hl
  have HBY := Aside0.mk hb
  have HIX : Aside0 (∀ (i : Nat), i < 8 → ∀ W, (Instr.index 84 (.agg #[.int .u8 b0, .int .u8 b1, .int .u8 b2, .int .u8 b3, .int .u8 b4, .int .u8 b5, .int .u8 b6, .int .u8 b7]) (.int .i64 (i : Int))).run Try.prog W = .ok (.int .u8 (nth [b0, b1, b2, b3, b4, b5, b6, b7] i)) W) := ⟨fun i hi W => run_index_nums Try.underlying84 Try.underlying5 size5 [b0, b1, b2, b3, b4, b5, b6, b7] i rfl hi W⟩
  clear hb hl
  show Calls _ _ #[.int .i64 f, .agg #[.int .u8 b0, .int .u8 b1, .int .u8 b2, .int .u8 b3, .int .u8 b4, .int .u8 b5, .int .u8 b6, .int .u8 b7]] _ _
  obtain ⟨B, hB⟩ : ∃ B, B = [b0, b1, b2, b3, b4, b5, b6, b7] := ⟨_, rfl⟩
  have hBl : B.length = 8 := by rw [hB]; rfl
  rw [← hB] at HIX HBY ⊢
  have HBL := Aside0.mk hBl
  clear hB hBl
  go_enter Try.func50, Try.ntmps50
  go_wp2_with fail
  have HB0 : Aside0 (Below w.heap.size w (w.alloc (.cells #[.int .u8 b0, .int .u8 b1, .int .u8 b2, .int .u8 b3, .int .u8 b4, .int .u8 b5, .int .u8 b6, .int .u8 b7] 84))) := ⟨(Below.refl _ _).alloc (Nat.le_refl _) _⟩
  generalize w.alloc (.cells #[.int .u8 b0, .int .u8 b1, .int .u8 b2, .int .u8 b3, .int .u8 b4, .int .u8 b5, .int .u8 b6, .int .u8 b7] 84) = W at HB0 ⊢
  go_loopw [5, 7, 12] (fun v5 v7 v12 wr => ∃ (S : ByteArray) (k : Nat), k ≤ 8 ∧ v12 = .int .i64 k ∧ v5 = .string S ∧ S.size = 2 * k ∧ Aside0 (HexOf S (nibL (B.take k))) ∧ Aside0 (Below w.heap.size w wr))
    (fun _ _ v12 _ => 8 - (intOf v12).toNat)
  case atStart => exact ⟨⟨#[]⟩, 0, by omega, rfl, rfl, rfl, ⟨rfl, fun d hd => by simp [nibL] at hd⟩, HB0⟩
  case round =>
    clear HB0
    obtain ⟨S, k, hk, rfl, rfl, hsz, HS, HB⟩ := hrel
    by_cases hlt : k < 8
    · have hix := HIX.out k hlt
      have HT1 := Aside0.mk (take_nth B k (by rw [HBL.out]; exact hlt))
      obtain ⟨x0, x1⟩ := HBY.out.nth k
      obtain ⟨x, hx⟩ : ∃ x, x = nth B k := ⟨_, rfl⟩
      rw [← hx] at hix x0 x1 HT1
      clear hx
      have h15 := and15_of x ⟨x0, x1⟩
      obtain ⟨p, hp, hp16⟩ : ∃ p : Nat, x / 16 = (p : Int) ∧ p < 16 := ⟨(x / 16).toNat, by omega, by omega⟩
      obtain ⟨q, hq, hq16⟩ : ∃ q : Nat, x % 16 = (q : Int) ∧ q < 16 := ⟨(x % 16).toNat, by omega, by omega⟩
      rw [hq] at h15
      have hp1 : ((p : Int) + 1) % 256 = (p : Int) + 1 := by omega
      have hq1 : ((q : Int) + 1) % 256 = (q : Int) + 1 := by omega
      go_wp2_with fail
      go_quiet (fail)
      go_wp2_with fail
      have hs1 := (hex_one p hp16).size
      have hs2 := (hex_one q hq16).size
      have HX := Aside0.mk ((hex_one p hp16).app (hex_one q hq16))
      rw [← hp, ← hq] at HX
      go_roundw
      case rel => exact ⟨_, k + 1, by omega, by go_num, rfl, by
        unfold HEX at hs1 hs2
        rw [ByteArray.size_append, ByteArray.size_append, hs1, hs2]
        simp only [List.length_cons, List.length_nil]
        omega, ⟨by rw [HT1.out, nibL_snoc]; exact HS.out.app HX.out⟩, ⟨pw_below_drewN HB.out _⟩⟩
      case measure => simp [intOf]; omega
    · obtain rfl : k = 8 := by omega
      rw [List.take_of_length_le (by rw [HBL.out]; exact Nat.le_refl _)] at HS
      have hDl : (nibL B).length = 16 := by rw [nibL_length, HBL.out]
      obtain ⟨D, hD⟩ : ∃ D, D = nibL B := ⟨_, rfl⟩
      rw [← hD] at HS hDl
      have h0c := HS.out.at 0 (by omega)
      have h1c := HS.out.at 1 (by omega)
      obtain ⟨e00, e01⟩ := HS.out.2.at 0 (by omega)
      obtain ⟨e10, e11⟩ := HS.out.2.at 1 (by omega)
      have HD := Aside0.mk hD
      obtain ⟨d0, hd0⟩ : ∃ d, d = nth D 0 := ⟨_, rfl⟩
      obtain ⟨d1, hd1⟩ : ∃ d, d = nth D 1 := ⟨_, rfl⟩
      rw [← hd0] at h0c e00 e01
      rw [← hd1] at h1c e10 e11
      have H0 := Aside0.mk hd0
      have H1 := Aside0.mk hd1
      have HDL := Aside0.mk hDl
      clear hd0 hd1 hD hDl hlt hk
      go_wp2_with fail
      with_reducible refine (impl_digit.at d1 _ e10 e11).mono ?_
      rintro e w1 ⟨rfl, rfl⟩
      have hw1 : IntKind.i64.wrap d1 = d1 := by unfold IntKind.wrap; simp [IntKind.bits, IntKind.signed]; omega
      go_wp2_with fail
      with_reducible refine (impl_digit.at d0 _ e00 e01).mono ?_
      rintro e w1 ⟨rfl, rfl⟩
      by_cases c0 : d0 = f
      · by_cases c1 : 4 ≤ d1
        · by_cases c2 : d1 ≤ 12
          · have b0 : (d0 == f) = true := beq_iff_eq.2 c0
            have b1 : decide (4 ≤ d1) = true := decide_eq_true c1
            have b2 : decide (d1 ≤ 12) = true := decide_eq_true c2
            clear h0c h1c
            have C0 := Aside0.mk c0
            clear c0
            go_wp2_with fail
            with_reducible refine (impl_must.ok _).mono ?_
            rintro e w1 ⟨rfl, rfl⟩
            go_wp2_with fail
            obtain ⟨T, hT⟩ : ∃ T, T = S.extract 2 16 := ⟨_, rfl⟩
            have HT : Aside0 (HexOf T ((D.drop 2).take 14)) := ⟨by rw [hT]; exact HS.out.ext 2 16⟩
            have hTz : T.size = 14 := by rw [HT.out.size, List.length_take, List.length_drop, HDL.out]; rfl
            rw [← hT]
            clear hT
            have HTN : Aside0 (∀ i, i < 14 → nth ((D.drop 2).take 14) i = nth D (2 + i)) := ⟨fun i hi => by
              have := HDL.out
              rw [nth_at _ _ (by simp; omega), nth_at _ _ (by omega), List.getElem_take, List.getElem_drop]⟩
            go_loopw [9, 10] (fun v9 v10 w' => ∃ pos : Nat, w' = w1.iter T pos ∧ pos ≤ 14 ∧ Aside0 (∀ i, i < pos → okAt f d1 i (nth D (2 + i)) = true)) (fun _ _ w' => 14 - w'.iterPos w1.heap.size)
            case atStart => exact ⟨0, rfl, by omega, ⟨fun i hi => absurd hi (by omega)⟩⟩
            case round =>
              obtain ⟨pos, rfl, hpos, HK⟩ := hrel
              by_cases hp : pos < 14
              · have hpT : pos < T.size := by omega
                have hbyte := HT.out.at pos hpT
                rw [HTN.out pos hp] at hbyte
                obtain ⟨q0, q1⟩ := HS.out.2.at (2 + pos) (by rw [HDL.out]; omega)
                have HSTEP : Aside0 (okAt f d1 pos (nth D (2 + pos)) = true → Aside0 (∀ i, i < pos + 1 → okAt f d1 i (nth D (2 + i)) = true)) := ⟨fun h => ⟨fun i hi => by
                  rcases Nat.lt_or_ge i pos with h' | h'
                  · exact HK.out i h'
                  · obtain rfl : i = pos := by omega
                    exact h⟩⟩
                have HSTOP : Aside0 (okAt f d1 pos (nth D (2 + pos)) = false → rcOk f D = false) := ⟨fun h => rcOk_at pos hp (by rw [← H1.out]; exact h)⟩
                obtain ⟨d, hd⟩ : ∃ d, d = nth D (2 + pos) := ⟨_, rfl⟩
                rw [← hd] at hbyte q0 q1 HSTEP HSTOP
                have hlow : (T[pos]'hpT).toNat < 128 := by
                  have : ((T[pos]'hpT).toNat : Int) < 128 := by rw [hbyte]; unfold hexc; split <;> omega
                  omega
                have hnx : ∀ ty, (Instr.next (.pointer (some ⟨w1.heap.size, 0, none⟩)) true ty).run Try.prog (w1.iter T pos) = _ := fun ty => run_next_ascii w1 T pos ty hpT hlow
                obtain ⟨m, hm⟩ : ∃ m, m = (T[pos]'hpT).toNat := ⟨_, rfl⟩
                rw [← hm] at hbyte hnx
                clear hm hlow hd
                by_cases ha : (pos : Int) < d1
                · by_cases hd9 : d ≤ 9
                  · have m0 : 48 ≤ (m : Int) := by rw [hbyte]; unfold hexc; rw [if_pos (by omega)]; omega
                    have m1 : (m : Int) ≤ 57 := by rw [hbyte]; unfold hexc; rw [if_pos (by omega)]; omega
                    have HOK := Aside0.mk (HSTEP.out (by unfold okAt; rw [if_pos ha]; exact decide_eq_true hd9))
                    clear hbyte HSTEP HSTOP
                    go_wp2_with fail
                    with_reducible refine (impl_must.ok _).mono ?_
                    rintro e wz ⟨rfl, rfl⟩
                    go_wp2_with fail
                    go_roundw
                    case rel => exact ⟨pos + 1, rfl, by omega, HOK.out⟩
                    case measure => simp; omega
                  · have m0 : 65 ≤ (m : Int) := by rw [hbyte]; unfold hexc; rw [if_neg (by omega)]; omega
                    have m1 : decide ((m : Int) ≤ 57) = false := decide_eq_false (by omega)
                    have HNO := Aside0.mk (HSTOP.out (by unfold okAt; rw [if_pos ha]; exact decide_eq_false hd9))
                    clear hbyte HSTEP HSTOP
                    go_wp2_with fail
                    with_reducible refine (impl_must.no _).mono ?_
                    rintro e wz ⟨rfl, rfl⟩
                    exact ⟨rfl, by rw [← HD.out]; exact RC_no HNO.out, (pw_below_iter HB.out T _ HB.out.size)⟩
                · have ha' : decide ((pos : Int) < d1) = false := decide_eq_false ha
                  rcases hf with rfl | rfl
                  · by_cases hd15 : d = 15
                    · have m0 : ((m : Int) == 70) = true := by rw [beq_iff_eq, hbyte, hd15]; rfl
                      have HOK := Aside0.mk (HSTEP.out (by unfold okAt; rw [if_neg ha, if_pos rfl]; exact decide_eq_true hd15))
                      clear hbyte HSTEP HSTOP
                      go_wp2_with fail
                      with_reducible refine (impl_must.ok _).mono ?_
                      rintro e wz ⟨rfl, rfl⟩
                      go_wp2_with fail
                      go_roundw
                      case rel => exact ⟨pos + 1, rfl, by omega, HOK.out⟩
                      case measure => simp; omega
                    · have m0 : ((m : Int) == 70) = false := by rw [beq_eq_false_iff_ne, hbyte]; unfold hexc; split <;> omega
                      have HNO := Aside0.mk (HSTOP.out (by unfold okAt; rw [if_neg ha, if_pos rfl]; exact decide_eq_false hd15))
                      clear hbyte HSTEP HSTOP
                      go_wp2_with fail
                      with_reducible refine (impl_must.no _).mono ?_
                      rintro e wz ⟨rfl, rfl⟩
                      exact ⟨rfl, by rw [← HD.out]; exact RC_no HNO.out, (pw_below_iter HB.out T _ HB.out.size)⟩
                  · by_cases hd10 : 10 ≤ d
                    · have m0 : decide (65 ≤ (m : Int)) = true := decide_eq_true (by rw [hbyte]; unfold hexc; rw [if_neg (by omega)]; omega)
                      have HOK := Aside0.mk (HSTEP.out (by unfold okAt; rw [if_neg ha, if_neg (by decide)]; exact decide_eq_true hd10))
                      clear hbyte HSTEP HSTOP
                      go_wp2_with fail
                      with_reducible refine (impl_must.ok _).mono ?_
                      rintro e wz ⟨rfl, rfl⟩
                      go_wp2_with fail
                      go_roundw
                      case rel => exact ⟨pos + 1, rfl, by omega, HOK.out⟩
                      case measure => simp; omega
                    · have m0 : decide (65 ≤ (m : Int)) = false := decide_eq_false (by rw [hbyte]; unfold hexc; rw [if_pos (by omega)]; omega)
                      have HNO := Aside0.mk (HSTOP.out (by unfold okAt; rw [if_neg ha, if_neg (by decide)]; exact decide_eq_false hd10))
                      clear hbyte HSTEP HSTOP
                      go_wp2_with fail
                      with_reducible refine (impl_must.no _).mono ?_
                      rintro e wz ⟨rfl, rfl⟩
                      exact ⟨rfl, by rw [← HD.out]; exact RC_no HNO.out, (pw_below_iter HB.out T _ HB.out.size)⟩
              · obtain rfl : pos = 14 := by omega
                have hnx : ∀ ty, (Instr.next (.pointer (some ⟨w1.heap.size, 0, none⟩)) true ty).run Try.prog (w1.iter T 14) = _ := fun ty => run_next_end w1 T 14 ty (by omega)
                have hYES := Aside0.mk (rcOk_all (H0.out.symm.trans C0.out) (by rw [← H1.out]; exact c1) (by rw [← H1.out]; exact c2) (fun i hi => by rw [← H1.out]; exact HK.out i hi))
                clear HK hp
                obtain ⟨n, hn⟩ : ∃ n : Nat, d1 = (n : Int) := ⟨d1.toNat, by omega⟩
                subst hn
                have e2 : (2 + (n : Int)).toNat = 2 + n := by omega
                have HXX : Aside0 (HexOf (S.extract 2 (2 + n)) ((D.drop 2).take (nth D 1).toNat)) := ⟨by
                  rw [← H1.out, Int.toNat_natCast]
                  have hxx := HS.out.ext 2 (2 + n)
                  rw [show 2 + n - 2 = n by omega] at hxx
                  exact hxx⟩
                go_wp2
                go_ret
                exact ⟨by rw [← HD.out]; exact RC_yes hYES.out _ HXX.out, (pw_below_iter HB.out T _ HB.out.size)⟩
          · have b0 : (d0 == f) = true := beq_iff_eq.2 c0
            have b1 : decide (4 ≤ d1) = true := decide_eq_true c1
            have b2 : decide (d1 ≤ 12) = false := decide_eq_false c2
            clear h0c h1c
            have HNO := Aside0.mk (rcOk_head (f := f) (ds := D) (by rw [← H0.out, ← H1.out]; omega))
            clear c0
            go_wp2_with fail
            with_reducible refine (impl_must.no _).mono ?_
            rintro e wz ⟨rfl, rfl⟩
            exact ⟨rfl, by rw [← HD.out]; exact RC_no HNO.out, HB.out⟩
        · have b0 : (d0 == f) = true := beq_iff_eq.2 c0
          have b1 : decide (4 ≤ d1) = false := decide_eq_false c1
          clear h0c h1c
          have HNO := Aside0.mk (rcOk_head (f := f) (ds := D) (by rw [← H0.out, ← H1.out]; omega))
          clear c0
          go_wp2_with fail
          with_reducible refine (impl_must.no _).mono ?_
          rintro e wz ⟨rfl, rfl⟩
          exact ⟨rfl, by rw [← HD.out]; exact RC_no HNO.out, HB.out⟩
      · have b0 : (d0 == f) = false := beq_eq_false_iff_ne.2 c0
        clear h0c h1c
        have HNO := Aside0.mk (rcOk_head (f := f) (ds := D) (by rw [← H0.out, ← H1.out]; omega))
        clear c0
        go_wp2_with fail
        with_reducible refine (impl_must.no _).mono ?_
        rintro e wz ⟨rfl, rfl⟩
        exact ⟨rfl, by rw [← HD.out]; exact RC_no HNO.out, HB.out⟩
end Go.Proofs.Ytiejallnkgllnaa
namespace Go.Proofs.Ytiejallnkgllnaa
open Go
set_option linter.unusedVariables false
/-- Q, with X in the place of what it asks of a panic. -/
def onPanic (X : List PanicEntry → Act → World → Prop) (Q : Exit → Act → World → Prop) : Exit → Act → World → Prop
  | .panic ch, a, w => X ch a w
  | e, a, w => Q e a w
section
variable {P : Program} {ops : Array Oper} {Q : Exit → Act → World → Prop} {X : List PanicEntry → Act → World → Prop} {s : Nat} {p : Value}
theorem put_slot {a : Act} {d : Option Tmp} {v : Value} (hd : d ≠ some s) (h : a.tmps.getD s undef = p) : (a.put d v).tmps.getD s undef = p := by
  cases d with
  | none => exact h
  | some d =>
    have hne : d ≠ s := fun e => hd (by rw [e])
    show (a.tmps.setIfInBounds d v).getD s undef = p
    rw [← h]
    simp [hne]
theorem upon_slot {o : Oper} {a : Act} {K K' : Act → World → Prop} (hd : o.dst ≠ some s) (hI : a.tmps.getD s undef = p) (hQ : ∀ ch a w, a.tmps.getD s undef = p → X ch a w → Q (.panic ch) a w) (hK : ∀ a w, a.tmps.getD s undef = p → K a w → K' a w) (r : Result Next) (h : o.upon P a K (onPanic X Q) r) : o.upon P a K' Q r := by
  cases r with
  | ok n w' =>
    cases n with
    | value v => exact hK _ _ (put_slot hd hI) h
    | skip => exact hK _ _ (put_slot hd hI) h
    | defer d => exact hK _ _ (put_slot (a := { a with defers := d :: a.defers }) hd hI) h
    | enter f args =>
      simp only [Oper.upon] at h ⊢
      refine Calls.mono h (fun e w'' he => ?_)
      cases e with
      | returned v => exact hK _ _ (put_slot hd hI) he
      | panicked chain => exact hQ _ _ _ hI he
      | outgrown => exact he
    | row row args =>
      simp only [Oper.upon] at h ⊢
      exact Rows.mono h (fun _ _ he => hK _ _ (put_slot hd hI) he)
    | _ => simp only [Oper.upon] at h
  | halt x w' =>
    cases x with
    | panic v => exact hQ _ _ _ hI h
    | _ => simp only [Oper.upon] at h
theorem wpOp_slot {i : Nat} {a : Act} {w : World} {K K' : Act → World → Prop} (hd : ∀ (i : Nat) (o : Oper), ops[i]? = some o → o.dst ≠ some s) (hI : a.tmps.getD s undef = p) (hQ : ∀ ch a w, a.tmps.getD s undef = p → X ch a w → Q (.panic ch) a w) (hK : ∀ a w, a.tmps.getD s undef = p → K a w → K' a w) (h : wpOp P ops (onPanic X Q) i K a w) : wpOp P ops Q i K' a w := by
  unfold wpOp at *
  cases ho : ops[i]? with
  | none => rw [ho] at h; exact hK _ _ hI h
  | some o =>
    rw [ho] at h
    simp only at h ⊢
    by_cases hw : Region.wanted o (yielded ops a.tmps) = true
    · rw [if_pos hw] at h ⊢
      rcases h with h | ⟨h1, a0, w0, h2⟩
      · exact .inl (upon_slot (hd i o ho) hI hQ hK _ h)
      · exact .inr ⟨h1, a0, w0, h2⟩
    · rw [if_neg hw] at h ⊢
      exact hK _ _ (put_slot (hd i o ho) hI) h
theorem wpAny_slot {md : Region.Mode} (hd : ∀ (i : Nat) (o : Oper), ops[i]? = some o → o.dst ≠ some s) (hQ : ∀ ch a w, a.tmps.getD s undef = p → X ch a w → Q (.panic ch) a w) : ∀ (fuel : Nat) (listed : Array Bool) (a : Act) (w : World), a.tmps.getD s undef = p → wpAny P md ops (onPanic X Q) fuel listed a w → wpAny P md ops Q fuel listed a w
  | 0, _, _, _, _, h => h
  | fuel + 1, listed, a, w, hI, h => ⟨h.1, fun i hi => wpOp_slot hd hI hQ (fun a w hI h => wpAny_slot hd hQ fuel _ a w hI h) (h.2 i hi)⟩
end
theorem dst_all {ops : Array Oper} {s : Nat} (h : (ops.all fun o => o.dst != some s) = true) : ∀ (i : Nat) (o : Oper), ops[i]? = some o → o.dst ≠ some s := by
  intro i o ho
  obtain ⟨hi, rfl⟩ := Array.getElem?_eq_some_iff.1 ho
  have := Array.all_eq_true.1 h i hi
  simpa using this
end Go.Proofs.Ytiejallnkgllnaa
namespace Go.Proofs.Ytiejallnkgllnaa
open Go.RowKit Go.Proofs.YtiejallnkgllnaaW.PrintWords Go.Proofs.YtiejallnkgllnaaW.PrintLast Go.Proofs.YtiejallnkgllnaaW.PrintMore Go.Proofs.Ytiejallnkgllnaa.D
open Go.Proofs.Ytiejallnkgllnaa.B (xorL xorL_length)
set_option linter.unusedVariables false
def PT (w : World) (g : Nat) (c : Int) (s : ByteArray) : Prop := w.heap[g]? = some (.cells #[.int .i64 c, .string s] 31)
set_option maxHeartbeats 2000000 in
set_option maxRecDepth 100000 in
theorem catch_panicking (g : Nat) (older : List PanicEntry) (w : World) (B : Nat) (hB : B ≤ g) (h : PT w g 0 ⟨#[]⟩) :
    CallsD Try.prog 47 #[.pointer (some ⟨g, 0, none⟩)] (.panicking ({ v := .iface 78 (.agg #[]), recovered := false } :: older)) w fun e u' w' =>
      e = .returned (.tuple #[]) ∧ u' = .panicking ({ v := .iface 78 (.agg #[]), recovered := true } :: older) ∧ PT w' g 1 ⟨#[]⟩ ∧ Below B w w' := by
  refine callsD_of_wpS Try.func47 rfl fun c₀ cs hu => ?_
  apply wpS_seq
  apply wpS_region
  simp [wpOpsS, go_sem, recoverD, hu, Try.ntmps47, Exit.thenS]
  refine wpS_of_wp ?_
  have z0 : w.cell? ⟨g, 0, none⟩ = some (.int .i64 0) := (blk_cell h 0).trans rfl
  have z1 : w.cell? ⟨g, 1, none⟩ = some (.string ⟨#[]⟩) := (blk_cell h 1).trans rfl
  have f0 := blk_frozen h 0
  have f1 := blk_frozen h 1
  have hg := blk_lt h
  have hta : ∀ W, (Instr.typeAssert (.iface 78 (.agg #[])) 20 78 true).run Try.prog W = .ok (.tuple #[.agg #[], .bool true]) W := fun _ => by kernel_rfl
  simp only [Array.replicate, List.replicate]
  go_wp2_with fail
  refine ⟨rfl, _, rfl, .tuple #[], ?_, rfl, rfl, blk_alloc (blk_set (blk_set h 0 _) 1 _) _, ?_⟩
  · simp [results, Try.results47]
  · exact Below.alloc (((Below.refl B w).setCell (p := ⟨g, 0, none⟩) hB _).setCell (p := ⟨g, 1, none⟩) hB _) (by simp; omega) _
set_option maxHeartbeats 2000000 in
set_option maxRecDepth 100000 in
theorem catch_idle (g : Nat) (w : World) (B : Nat) (hB : B ≤ w.heap.size) :
    CallsD Try.prog 47 #[.pointer (some ⟨g, 0, none⟩)] .returning w fun e u' w' =>
      e = .returned (.tuple #[]) ∧ u' = .returning ∧ ∃ o, w' = w.alloc o := by
  refine callsD_of_wpS Try.func47 rfl fun c₀ cs hu => ?_
  apply wpS_seq
  apply wpS_region
  simp [wpOpsS, go_sem, recoverD, hu, Try.ntmps47, Exit.thenS]
  refine wpS_of_wp ?_
  have hta : ∀ W, (Instr.typeAssert .nilIface 20 78 true).run Try.prog W = .ok (.tuple #[.agg #[], .bool false]) W := fun _ => by kernel_rfl
  simp only [Array.replicate, List.replicate]
  go_wp2_with fail
  refine ⟨rfl, .returning, ?_, .tuple #[], ?_, rfl, rfl, _, rfl⟩
  · cases c₀
    simp only at hu
    subst hu
    rfl
  · simp [results, Try.results47]
theorem infoPT : (Try.prog.info? 31).map (·.size) = some 2 := by kernel_rfl
theorem run_makeFn (fn : Fn) (first cap : Array Value) (w : World) : (Instr.makeFunc fn first cap).run Try.prog w = .ok (.func fn first cap) w := rfl
/-- The door behind a panic that the decoder gave up with. -/
theorem door_bad {tmps : Array Value} {W w : World} (hp : tmps.getD 6 undef = .pointer (some ⟨w.heap.size, 0, none⟩)) (hP : PT W w.heap.size 0 ⟨#[]⟩) (hb : Below w.heap.size w W) {R : Ending → World → Prop} (hR : ∀ w', Below w.heap.size w w' → R (.returned (.agg #[.int .i64 1, .string ⟨#[]⟩])) w') :
    Leaves Try.prog Try.f16 tmps R [{ target := .fn (.func 47) #[.pointer (some ⟨w.heap.size, 0, none⟩)], args := #[] }] (.panicking badP) W := by
  refine leaves_cons (f := 47) (args := #[.pointer (some ⟨w.heap.size, 0, none⟩)]) (by simp) (by simp [go_sem]) ?_
  refine (catch_panicking w.heap.size [] W w.heap.size (Nat.le_refl _) hP).mono ?_
  rintro e u' w'' ⟨rfl, rfl, hP2, hb2⟩
  exact ⟨_, results_cell_row rfl _ _ w.heap.size 31 _ (0, 0) _ hp hP2 Try.underlying31 rfl infoPT, hR _ (hb.trans hb2)⟩
set_option maxHeartbeats 2000000 in
set_option maxRecDepth 100000 in
theorem impl_ReadPin.bad0 (f : Int) (A1 : Option Addr) (n1 c1 : Nat) (pan : ByteArray) (w : World) (h0 : f ≠ 0) (h3 : f ≠ 3) :
    Calls Try.prog 16 #[.int .i64 f, .slice A1 n1 c1, .string pan] w fun e w' => e = .returned (.agg #[.int .i64 1, .string ⟨#[]⟩]) ∧ Below w.heap.size w w' := by
  have hmf := run_makeFn
  have b0 : (f == 0) = false := beq_eq_false_iff_ne.2 h0
  have b3 : (f == 3) = false := beq_eq_false_iff_ne.2 h3
  clear h0 h3
  go_enter_defers Try.func16, Try.ntmps16
  go_wp2_with fail
  with_reducible refine (impl_must.no _).mono ?_
  rintro e w1 ⟨rfl, rfl⟩
  exact door_bad rfl (blk_new w _) ((Below.refl _ _).alloc (Nat.le_refl _) _) (fun _ hb => ⟨rfl, hb⟩)
set_option maxHeartbeats 2000000 in
set_option maxRecDepth 100000 in
theorem impl_ReadPin.bad1 (f : Int) (hf : f = 0 ∨ f = 3) (A1 : Option Addr) (n1 c1 : Nat) (pan : ByteArray) (w : World) (hq : pan.size ≤ 1000000000) (h2 : digOk pan 13 19 = false) :
    Calls Try.prog 16 #[.int .i64 f, .slice A1 n1 c1, .string pan] w fun e w' => e = .returned (.agg #[.int .i64 1, .string ⟨#[]⟩]) ∧ Below w.heap.size w w' := by
  have hmf := run_makeFn
  have BK : Aside0 (PT (w.alloc (.cells #[.int .i64 0, .string ⟨#[]⟩] 31)) w.heap.size 0 ⟨#[]⟩) := ⟨blk_new w _⟩
  have HB : Aside0 (Below w.heap.size w (w.alloc (.cells #[.int .i64 0, .string ⟨#[]⟩] 31))) := ⟨(Below.refl _ _).alloc (Nat.le_refl _) _⟩
  have K2 : Aside0 (∀ w, Calls Try.prog 49 #[.string pan, .int .i64 13, .int .i64 19] w fun e w' => e = .returned (.bool false) ∧ Below w.heap.size w w') := ⟨fun w => by rw [← h2]; exact impl_digits.calls pan 13 19 w (by omega)⟩
  clear h2
  rcases hf with rfl | rfl
  all_goals
    go_enter_defers Try.func16, Try.ntmps16
    go_wp2_with fail
    with_reducible refine (K2.out _).mono ?_
    rintro e w1 ⟨rfl, hb1⟩
    have BK1 := Aside0.mk (blk_below BK.out hb1)
    have HB1 := Aside0.mk (below_step HB.out hb1)
    clear hb1
    go_wp2_with fail
    with_reducible refine (impl_must.no _).mono ?_
    rintro e wz ⟨rfl, rfl⟩
    exact door_bad rfl BK1.out HB1.out (fun _ hb => ⟨rfl, hb⟩)
set_option maxHeartbeats 2000000 in
set_option maxRecDepth 100000 in
theorem impl_ReadPin.bad2 (f : Int) (hf : f = 0 ∨ f = 3) (A1 : Option Addr) (n1 c1 : Nat) (pan : ByteArray) (w : World) (hq : pan.size ≤ 1000000000) (h2 : digOk pan 13 19 = true) (h8 : n1 ≠ 8) :
    Calls Try.prog 16 #[.int .i64 f, .slice A1 n1 c1, .string pan] w fun e w' => e = .returned (.agg #[.int .i64 1, .string ⟨#[]⟩]) ∧ Below w.heap.size w w' := by
  have hmf := run_makeFn
  have BK : Aside0 (PT (w.alloc (.cells #[.int .i64 0, .string ⟨#[]⟩] 31)) w.heap.size 0 ⟨#[]⟩) := ⟨blk_new w _⟩
  have HB : Aside0 (Below w.heap.size w (w.alloc (.cells #[.int .i64 0, .string ⟨#[]⟩] 31))) := ⟨(Below.refl _ _).alloc (Nat.le_refl _) _⟩
  have K2 : Aside0 (∀ w, Calls Try.prog 49 #[.string pan, .int .i64 13, .int .i64 19] w fun e w' => e = .returned (.bool true) ∧ Below w.heap.size w w') := ⟨fun w => by rw [← h2]; exact impl_digits.calls pan 13 19 w (by omega)⟩
  have b8 : ((n1 : Int) == 8) = false := by rw [beq_eq_false_iff_ne]; omega
  clear h2 h8
  rcases hf with rfl | rfl
  all_goals
    go_enter_defers Try.func16, Try.ntmps16
    go_wp2_with fail
    with_reducible refine (K2.out _).mono ?_
    rintro e w1 ⟨rfl, hb1⟩
    have BK1 := Aside0.mk (blk_below BK.out hb1)
    have HB1 := Aside0.mk (below_step HB.out hb1)
    clear hb1
    go_wp2_with fail
    with_reducible refine (impl_must.no _).mono ?_
    rintro e wz ⟨rfl, rfl⟩
    exact door_bad rfl BK1.out HB1.out (fun _ hb => ⟨rfl, hb⟩)
theorem cells8 {w : World} {A : Option Addr} {a b c d e f g i : Int} (h : Kd.C (Kd.int .u8) w A 8 [a, b, c, d, e, f, g, i]) :
    ∃ ad : Addr, A = some ad ∧ w.cell? ad = some (.int .u8 a) ∧ w.cell? ⟨ad.block, ad.off + 1, none⟩ = some (.int .u8 b) ∧ w.cell? ⟨ad.block, ad.off + 2, none⟩ = some (.int .u8 c) ∧ w.cell? ⟨ad.block, ad.off + 3, none⟩ = some (.int .u8 d) ∧ w.cell? ⟨ad.block, ad.off + 4, none⟩ = some (.int .u8 e) ∧ w.cell? ⟨ad.block, ad.off + 5, none⟩ = some (.int .u8 f) ∧ w.cell? ⟨ad.block, ad.off + 6, none⟩ = some (.int .u8 g) ∧ w.cell? ⟨ad.block, ad.off + 7, none⟩ = some (.int .u8 i) := by
  obtain ⟨ad, rfl, hc⟩ := C_cells (l := [a, b, c, d, e, f, g, i]) h (by simp)
  exact ⟨ad, rfl, hc 0 _ rfl, hc 1 _ rfl, hc 2 _ rfl, hc 3 _ rfl, hc 4 _ rfl, hc 5 _ rfl, hc 6 _ rfl, hc 7 _ rfl⟩

theorem array_at {P : Program} {t e : TypeId} {n m : Nat} (ht : P.underlying t = some (.array n e)) (h : n ≤ m) (A : Option Addr) (c : Nat) (w : World) : (Instr.arrayAt t (.slice A m c)).run P w = .ok (.pointer A) w := by
  have : ¬ m < n := by omega
  simp [Instr.arrayAt, run_underlying ht, this]
/-- The door where nothing was given up. -/
theorem door_good {tmps : Array Value} {W w : World} {c : Int} {s : ByteArray} (hp : tmps.getD 6 undef = .pointer (some ⟨w.heap.size, 0, none⟩)) (hP : PT W w.heap.size c s) (hb : Below w.heap.size w W) {R : Ending → World → Prop} (hR : ∀ w', Below w.heap.size w w' → R (.returned (.agg #[.int .i64 c, .string s])) w') :
    Leaves Try.prog Try.f16 tmps R [{ target := .fn (.func 47) #[.pointer (some ⟨w.heap.size, 0, none⟩)], args := #[] }] .returning W := by
  refine leaves_cons (f := 47) (args := #[.pointer (some ⟨w.heap.size, 0, none⟩)]) (by simp) (by simp [go_sem]) ?_
  refine (catch_idle w.heap.size W w.heap.size hb.size).mono ?_
  rintro e u' w'' ⟨rfl, rfl, o, rfl⟩
  exact ⟨_, results_cell_row rfl _ _ w.heap.size 31 _ (0, 0) _ hp (blk_alloc hP o) Try.underlying31 rfl infoPT, hR _ (hb.alloc hb.size _)⟩
def RPend (f : Int) (D : List Int) (e : Ending) : Prop := if rcOk f D = true then ∃ P : ByteArray, e = .returned (.agg #[.int .i64 0, .string P]) ∧ HexOf P ((D.drop 2).take (nth D 1).toNat) else e = .returned (.agg #[.int .i64 1, .string ⟨#[]⟩])
set_option maxHeartbeats 4000000 in
set_option maxRecDepth 100000 in
theorem impl_ReadPin.good (f : Int) (hf : f = 0 ∨ f = 3) (A1 : Option Addr) (l1 : List Int) (c1 : Nat) (pan : ByteArray) (w : World) (hr : Kd.C (Kd.int .u8) w A1 8 l1) (hc : 8 ≤ c1) (hby : Bytes l1) (h2 : digOk pan 13 19 = true) (D : List Int) (hD : D = nibL (xorL l1 (outN (numH (accD pan)) 8))) :
    Calls Try.prog 16 #[.int .i64 f, .slice A1 8 c1, .string pan] w fun e w' => RPend f D e ∧ Below w.heap.size w w' := by
  have hmf := run_makeFn
  obtain ⟨d2, u2, v2⟩ := digOk_of h2
  have K2 : Aside0 (∀ w, Calls Try.prog 49 #[.string pan, .int .i64 13, .int .i64 19] w fun e w' => e = .returned (.bool true) ∧ Below w.heap.size w w') := ⟨fun w => by rw [← h2]; exact impl_digits.calls pan 13 19 w (by omega)⟩
  obtain ⟨a0, a1, a2, a3, a4, a5, a6, a7, rfl⟩ := eight8 l1 hr.1
  obtain ⟨b0, b1, b2, b3, b4, b5, b6, b7, hb⟩ := eight8 (outN (numH (accD pan)) 8) (outN_length _ 8 (by omega))
  have hbb : Bytes [b0, b1, b2, b3, b4, b5, b6, b7] := hb ▸ outN_bytes _
  have K4 : Aside0 (∀ w, Calls Try.prog 52 #[.string pan] w fun e w' => e = .returned (.agg #[.int .u8 b0, .int .u8 b1, .int .u8 b2, .int .u8 b3, .int .u8 b4, .int .u8 b5, .int .u8 b6, .int .u8 b7]) ∧ Below w.heap.size w w') := ⟨fun w => by have := impl_account.at pan w d2 (by omega) (by omega); rw [hb] at this; exact this⟩
  have KX := Aside0.mk (fun (g c : Nat) (w1 : World) (h : Blk w1 g .u8 84 ([a0, a1, a2, a3, a4, a5, a6, a7] ++ [b0, b1, b2, b3, b4, b5, b6, b7])) => xor8_two [a0, a1, a2, a3, a4, a5, a6, a7] [b0, b1, b2, b3, b4, b5, b6, b7] rfl hby rfl g c 84 w1 h)
  rw [hb] at hD
  obtain ⟨cs, hcs⟩ : ∃ cs, cs = xorL [a0, a1, a2, a3, a4, a5, a6, a7] [b0, b1, b2, b3, b4, b5, b6, b7] := ⟨_, rfl⟩
  have hcl : cs.length = 8 := by rw [hcs, xorL_length _ _ (by simp)]; rfl
  have hcb : Bytes cs := by rw [hcs]; exact xorL_bytes _ _ hby hbb
  rw [← hcs] at KX hD
  have K50 := Aside0.mk (fun (w1 : World) => impl_readClear.at f cs w1 hf hcl hcb)
  rw [← hD] at K50
  have HRC := Aside0.mk hr
  clear h2 hb hbb hcs hD hcl hcb hr d2
  by_cases hrc : rcOk f D = true
  · have K5 : Aside0 (∀ w1, Calls Try.prog 50 #[.int .i64 f, .agg (nums .u8 cs).toArray] w1 fun e w' => ∃ P : ByteArray, e = .returned (.string P) ∧ Aside0 (HexOf P ((D.drop 2).take (nth D 1).toNat)) ∧ Below w1.heap.size w1 w') := ⟨fun w1 => (K50.out w1).mono fun e w' ⟨he, hw⟩ => by
      unfold RCend at he
      rw [if_pos hrc] at he
      obtain ⟨P, h1, h2⟩ := he
      exact ⟨P, h1, ⟨h2⟩, hw⟩⟩
    have HYES : Aside0 (∀ P, HexOf P ((D.drop 2).take (nth D 1).toNat) → RPend f D (.returned (.agg #[.int .i64 0, .string P]))) := ⟨fun P hp => by unfold RPend; rw [if_pos hrc]; exact ⟨P, rfl, hp⟩⟩
    clear K50 hrc
    rcases hf with rfl | rfl
    all_goals
      go_enter_defers Try.func16, Try.ntmps16
      go_wp2_with fail
      with_reducible refine (K2.out _).mono ?_
      rintro e w1 ⟨rfl, hb1⟩
      have BK : Aside0 (PT w1 w.heap.size 0 ⟨#[]⟩) := ⟨blk_below (blk_new w _) hb1⟩
      have HB : Aside0 (Below w.heap.size w w1) := ⟨below_step ((Below.refl _ _).alloc (Nat.le_refl _) _) hb1⟩
      clear hb1
      go_wp2_with fail
      with_reducible refine (impl_must.ok _).mono ?_
      rintro e wz ⟨rfl, rfl⟩
      go_wp2_with fail
      have HRW := Aside0.mk (Kd.C_below HRC.out HB.out)
      obtain ⟨ad0, e0, x0, x1, x2, x3, x4, x5, x6, x7⟩ := cells8 HRW.out
      subst e0
      have nn0 := World.new_ne wz ad0 x0
      have hta := fun (A : Option Addr) (c : Nat) (w1 : World) => array_at (P := Try.prog) (t := 84) Try.underlying84 (Nat.le_refl 8) A c w1
      have HWN : Aside0 (w.heap.size ≠ ad0.block) := ⟨Nat.ne_of_gt (by
        obtain ⟨_, e_, y0, _⟩ := cells8 HRC.out
        cases e_
        exact World.block_lt_of_cell? w _ y0)⟩
      have hwn := HWN.out
      go_region_held3 (fun w' => w'.cell? ad0 = some (.int .u8 a0) ∧ w'.cell? ⟨ad0.block, ad0.off + 1, none⟩ = some (.int .u8 a1) ∧ w'.cell? ⟨ad0.block, ad0.off + 2, none⟩ = some (.int .u8 a2) ∧ w'.cell? ⟨ad0.block, ad0.off + 3, none⟩ = some (.int .u8 a3) ∧ w'.cell? ⟨ad0.block, ad0.off + 4, none⟩ = some (.int .u8 a4) ∧ w'.cell? ⟨ad0.block, ad0.off + 5, none⟩ = some (.int .u8 a5) ∧ w'.cell? ⟨ad0.block, ad0.off + 6, none⟩ = some (.int .u8 a6) ∧ w'.cell? ⟨ad0.block, ad0.off + 7, none⟩ = some (.int .u8 a7))
        (go_keep)
        (first | (go_at_call 52; go_must (refine (K4.out _).mono ?_; rintro e w3 ⟨rfl, hb⟩; have HB3 := Aside0.mk (show Below wz.heap.size wz w3 from below_then (by repeat (first | exact Below.refl _ _ | apply below_drew1)) (by first | exact Nat.le_refl _ | simp) hb); clear hb; obtain ⟨_, e_, y0', y1', y2', y3', y4', y5', y6', y7'⟩ := cells8 (Kd.C_below HRW.out HB3.out); cases e_; have nn_y := World.new_ne _ ad0 y0')) | (go_at_call 51; go_must (refine (KX.out _ _ _ ?bb).mono ?_; (case bb => exact (show Blk _ _ _ _ _ from blk_new _ (.cells (nums .u8 [a0, a1, a2, a3, a4, a5, a6, a7, b0, b1, b2, b3, b4, b5, b6, b7]).toArray 84))); rintro e w5 ⟨rfl, hb⟩; have HB5 := Aside0.mk (show Below wz.heap.size wz w5 from below_step (HB3.out.alloc HB3.out.size _) hb); clear hb; obtain ⟨_, e_, u0', u1', u2', u3', u4', u5', u6', u7'⟩ := cells8 (Kd.C_below HRW.out HB5.out); cases e_; have nn_u := World.new_ne _ ad0 u0')) | (go_at_call 50; go_must (refine (K5.out _).mono ?_; rintro e w6 ⟨P, rfl, HP, hb⟩; have HB6 := Aside0.mk (show Below wz.heap.size wz w6 from below_step HB5.out hb); clear hb; obtain ⟨_, e_, t0', t1', t2', t3', t4', t5', t6', t7'⟩ := cells8 (Kd.C_below HRW.out HB6.out); cases e_; have nn_t := World.new_ne _ ad0 t0'; have BK6 := Aside0.mk (show PT w6 w.heap.size 0 ⟨#[]⟩ from blk_below BK.out HB6.out); have z0 : w6.cell? ⟨w.heap.size, 0, none⟩ = some (.int .i64 0) := (blk_cell BK6.out 0).trans rfl; have z1 : w6.cell? ⟨w.heap.size, 1, none⟩ = some (.string ⟨#[]⟩) := (blk_cell BK6.out 1).trans rfl; have f0 := blk_frozen BK6.out 0; have f1 := blk_frozen BK6.out 1)))
      all_goals go_wp2
      all_goals exact door_good rfl (blk_set (blk_set BK6.out 0 _) 1 _) (((below_step HB.out HB6.out).setCell (p := ⟨w.heap.size, 0, none⟩) (Nat.le_refl _) _).setCell (p := ⟨w.heap.size, 1, none⟩) (Nat.le_refl _) _) (fun _ hb => ⟨HYES.out _ HP.out, hb⟩)
  · have K5 : Aside0 (∀ w1, Calls Try.prog 50 #[.int .i64 f, .agg (nums .u8 cs).toArray] w1 fun e w' => e = .panicked badP ∧ Below w1.heap.size w1 w') := ⟨fun w1 => (K50.out w1).mono fun e w' ⟨he, hw⟩ => by
      unfold RCend at he
      rw [if_neg hrc] at he
      exact ⟨he, hw⟩⟩
    have HNO : Aside0 (RPend f D (.returned (.agg #[.int .i64 1, .string ⟨#[]⟩]))) := ⟨by unfold RPend; rw [if_neg hrc]⟩
    clear K50 hrc
    rcases hf with rfl | rfl
    all_goals
      go_enter_defers Try.func16, Try.ntmps16
      go_wp2_with fail
      with_reducible refine (K2.out _).mono ?_
      rintro e w1 ⟨rfl, hb1⟩
      have BK : Aside0 (PT w1 w.heap.size 0 ⟨#[]⟩) := ⟨blk_below (blk_new w _) hb1⟩
      have HB : Aside0 (Below w.heap.size w w1) := ⟨below_step ((Below.refl _ _).alloc (Nat.le_refl _) _) hb1⟩
      clear hb1
      go_wp2_with fail
      with_reducible refine (impl_must.ok _).mono ?_
      rintro e wz ⟨rfl, rfl⟩
      go_wp2_with fail
      have HRW := Aside0.mk (Kd.C_below HRC.out HB.out)
      obtain ⟨ad0, e0, x0, x1, x2, x3, x4, x5, x6, x7⟩ := cells8 HRW.out
      subst e0
      have nn0 := World.new_ne wz ad0 x0
      have hta := fun (A : Option Addr) (c : Nat) (w1 : World) => array_at (P := Try.prog) (t := 84) Try.underlying84 (Nat.le_refl 8) A c w1
      have HWN : Aside0 (w.heap.size ≠ ad0.block) := ⟨Nat.ne_of_gt (by
        obtain ⟨_, e_, y0, _⟩ := cells8 HRC.out
        cases e_
        exact World.block_lt_of_cell? w _ y0)⟩
      have hwn := HWN.out
      refine wp_region_any (by kernel_rfl) (wpAny_slot (s := 6) (p := .pointer (some ⟨w.heap.size, 0, none⟩)) (X := fun ch a w1 => ∀ tm : Array Value, tm.getD 6 undef = .pointer (some ⟨w.heap.size, 0, none⟩) → Leaves Try.prog Try.f16 tm (fun e w' => RPend _ D e ∧ Below w.heap.size w w') a.defers (.panicking ch) w1) (dst_all (by kernel_rfl)) (fun ch a w1 hI hX => hX a.tmps hI) _ _ _ _ rfl ?_)
      change wpAny _ _ _ _ _ _ _ (World.drew _)
      refine wpAny_take (i := 0) (v := ?_) rfl (by kernel_rfl) (by kernel_rfl) (by kernel_rfl) (fun _ _ _ h => h) (Or.inl ⟨by rfl, ?_⟩) ?_
      rotate_left
      · intro w'
        go_simp
        with_reducible rfl
      refine wpAny_take (i := 1) (v := ?_) rfl (by kernel_rfl) (by kernel_rfl) (by kernel_rfl) (fun _ _ _ h => h) (Or.inl ⟨by rfl, ?_⟩) ?_
      rotate_left
      · intro w'
        go_simp
        with_reducible rfl
      refine wpAny_take (i := 4) (v := ?_) rfl (by kernel_rfl) (by kernel_rfl) (by kernel_rfl) (fun _ _ _ h => h) (Or.inl ⟨by rfl, ?_⟩) ?_
      rotate_left
      · intro w'
        go_simp
        with_reducible rfl
      refine wpAny_take (i := 2) (v := ?_) rfl (by kernel_rfl) (by kernel_rfl) (by kernel_rfl) (fun _ _ _ h => h) (Or.inl ⟨by rfl, ?_⟩) ?_
      rotate_left
      · intro w'
        go_simp
        with_reducible rfl
      refine wpAny_ready (rs := [3, 5]) (by kernel_rfl) (by simp) ?_
      refine AllReady.cons rfl (fun K hK => ?_) (AllReady.cons rfl (fun K hK => ?_) AllReady.nil)
      · go_simp
        refine hK _ _ ?_
        clear hK K
        refine wpAny_ready (rs := [5]) (by kernel_rfl) (by simp) ?_
        refine AllReady.cons rfl (fun K hK => ?_) AllReady.nil
        go_simp
        refine (K4.out _).mono ?_
        rintro e w3 ⟨rfl, hb⟩
        have HB3 := Aside0.mk (show Below wz.heap.size wz w3 from below_then (by repeat (first | exact Below.refl _ _ | apply below_drew1)) (by first | exact Nat.le_refl _ | simp) hb)
        clear hb
        obtain ⟨_, e_, y0', y1', y2', y3', y4', y5', y6', y7'⟩ := cells8 (Kd.C_below HRW.out HB3.out)
        cases e_
        refine hK _ _ ?_
        clear hK K
        refine wpAny_ready (rs := [6]) (by kernel_rfl) (by simp) ?_
        refine AllReady.cons rfl (fun K hK => ?_) AllReady.nil
        go_simp
        refine hK _ _ ?_
        clear hK K
        refine wpAny_ready (rs := [7]) (by kernel_rfl) (by simp) ?_
        refine AllReady.cons rfl (fun K hK => ?_) AllReady.nil
        go_simp
        refine (KX.out _ _ _ ?_).mono ?_
        · exact (show Blk _ _ _ _ _ from blk_new _ (.cells (nums .u8 [a0, a1, a2, a3, a4, a5, a6, a7, b0, b1, b2, b3, b4, b5, b6, b7]).toArray 84))
        rintro e w5 ⟨rfl, hb⟩
        have HB5 := Aside0.mk (show Below wz.heap.size wz w5 from below_step (HB3.out.alloc HB3.out.size _) hb)
        clear hb
        refine hK _ _ ?_
        clear hK K
        refine wpAny_ready (rs := [8]) (by kernel_rfl) (by simp) ?_
        refine AllReady.cons rfl (fun K hK => ?_) AllReady.nil
        go_simp
        refine (K5.out _).mono ?_
        rintro e w6 ⟨rfl, hb⟩
        have HB6 := Aside0.mk (show Below wz.heap.size wz w6 from below_step HB5.out hb)
        have BK6 := Aside0.mk (show PT w6 w.heap.size 0 ⟨#[]⟩ from blk_below BK.out HB6.out)
        exact fun tm htm => door_bad (by simpa using htm) BK6.out (below_step HB.out HB6.out) (fun _ hb => ⟨HNO.out, hb⟩)
      · go_simp
        refine (K4.out _).mono ?_
        rintro e w3 ⟨rfl, hb⟩
        have HB3 := Aside0.mk (show Below wz.heap.size wz w3 from below_then (by repeat (first | exact Below.refl _ _ | apply below_drew1)) (by first | exact Nat.le_refl _ | simp) hb)
        clear hb
        obtain ⟨_, e_, y0', y1', y2', y3', y4', y5', y6', y7'⟩ := cells8 (Kd.C_below HRW.out HB3.out)
        cases e_
        refine hK _ _ ?_
        clear hK K
        refine wpAny_ready (rs := [3]) (by kernel_rfl) (by simp) ?_
        refine AllReady.cons rfl (fun K hK => ?_) AllReady.nil
        go_simp
        refine hK _ _ ?_
        clear hK K
        refine wpAny_ready (rs := [6]) (by kernel_rfl) (by simp) ?_
        refine AllReady.cons rfl (fun K hK => ?_) AllReady.nil
        go_simp
        refine hK _ _ ?_
        clear hK K
        refine wpAny_ready (rs := [7]) (by kernel_rfl) (by simp) ?_
        refine AllReady.cons rfl (fun K hK => ?_) AllReady.nil
        go_simp
        refine (KX.out _ _ _ ?_).mono ?_
        · exact (show Blk _ _ _ _ _ from blk_new _ (.cells (nums .u8 [a0, a1, a2, a3, a4, a5, a6, a7, b0, b1, b2, b3, b4, b5, b6, b7]).toArray 84))
        rintro e w5 ⟨rfl, hb⟩
        have HB5 := Aside0.mk (show Below wz.heap.size wz w5 from below_step (HB3.out.alloc HB3.out.size _) hb)
        clear hb
        refine hK _ _ ?_
        clear hK K
        refine wpAny_ready (rs := [8]) (by kernel_rfl) (by simp) ?_
        refine AllReady.cons rfl (fun K hK => ?_) AllReady.nil
        go_simp
        refine (K5.out _).mono ?_
        rintro e w6 ⟨rfl, hb⟩
        have HB6 := Aside0.mk (show Below wz.heap.size wz w6 from below_step HB5.out hb)
        have BK6 := Aside0.mk (show PT w6 w.heap.size 0 ⟨#[]⟩ from blk_below BK.out HB6.out)
        exact fun tm htm => door_bad (by simpa using htm) BK6.out (below_step HB.out HB6.out) (fun _ hb => ⟨HNO.out, hb⟩)
end Go.Proofs.Ytiejallnkgllnaa
namespace Go.Proofs.Ytiejallnkgllnaa
open Go.RowKit Go.Proofs.YtiejallnkgllnaaW.PrintWords Go.Proofs.YtiejallnkgllnaaW.PrintLast Go.Proofs.YtiejallnkgllnaaW.PrintMore Go.Proofs.Ytiejallnkgllnaa.D
open Go.Proofs.Ytiejallnkgllnaa.B (xorL xorL_length)
set_option linter.unusedVariables false
theorem str_bI (s : ByteArray) : strOfNums (bI s) = s := by
  unfold strOfNums bI
  rw [List.map_map]
  have h : s.data.toList.map ((fun n : Int => UInt8.ofNat n.toNat) ∘ fun b : UInt8 => (b.toNat : Int)) = s.data.toList := by
    conv => rhs; rw [← List.map_id s.data.toList]
    exact List.map_congr_left fun b _ => by simp
  rw [h]
theorem HexOf.eq {s : ByteArray} {ds : List Int} (h : HexOf s ds) : s = strOfNums (ds.map hexc) := by rw [← h.1, str_bI]
/-- The clear digits of a PIN block. -/
def rpD (l1 : List Int) (pan : ByteArray) : List Int := nibL (xorL l1 (outN (numH (accD pan)) 8))
def pinS (D : List Int) : ByteArray := strOfNums (((D.drop 2).take (nth D 1).toNat).map hexc)
/-- A PIN read: its code, its text. -/
def rpR (f : Int) (l1 : List Int) (pan : ByteArray) : Int × ByteArray :=
  if (f = 0 ∨ f = 3) ∧ digOk pan 13 19 = true ∧ l1.length = 8 ∧ rcOk f (rpD l1 pan) = true then (0, pinS (rpD l1 pan)) else (1, ⟨#[]⟩)
def impl_ReadPin.f (a0 : Int) (l1 : List Int) (a2 : ByteArray) : Option (Int × ByteArray) := if a2.size ≤ 1000000000 ∧ bytesB l1 = true then some (rpR a0 l1 a2) else none
theorem impl_ReadPin.calls (a0 : Int) (A1 : Option Addr) (c1 : Nat) (l1 : List Int) (a2 : ByteArray) (r1 : Int) (r2 : ByteArray) (w : World) (hr1 : Kd.C (Kd.int .u8) w A1 l1.length l1) (hc1 : l1.length ≤ c1) (h : impl_ReadPin.f a0 l1 a2 = some (r1, r2)) :
    Calls Try.prog 16 #[.int .i64 a0, .slice A1 l1.length c1, .string a2] w fun e w' => e = .returned (.agg #[.int .i64 r1, .string r2]) ∧ Below w.heap.size w w' := by
  obtain ⟨⟨hs, hb⟩, hr⟩ := ite_some h
  have hB := bytesB_of hb
  unfold rpR at hr
  by_cases hf : a0 = 0 ∨ a0 = 3
  · by_cases h2 : digOk a2 13 19 = true
    · by_cases h8 : l1.length = 8
      · have hg := impl_ReadPin.good a0 hf A1 l1 c1 a2 w (h8 ▸ hr1) (by omega) hB h2 (rpD l1 a2) rfl
        rw [h8]
        refine hg.mono fun e w' ⟨he, hw⟩ => ⟨?_, hw⟩
        unfold RPend at he
        by_cases hk : rcOk a0 (rpD l1 a2) = true
        · rw [if_pos hk] at he
          rw [if_pos ⟨hf, h2, h8, hk⟩] at hr
          obtain ⟨P, he, hp⟩ := he
          simp only [Prod.mk.injEq] at hr
          rw [he, ← hr.1, ← hr.2, hp.eq]
          rfl
        · rw [if_neg hk] at he
          rw [if_neg fun x => hk x.2.2.2] at hr
          simp only [Prod.mk.injEq] at hr
          rw [he, ← hr.1, ← hr.2]
      · rw [if_neg fun x => h8 x.2.2.1] at hr
        simp only [Prod.mk.injEq] at hr
        rw [← hr.1, ← hr.2]
        exact impl_ReadPin.bad2 a0 hf A1 l1.length c1 a2 w hs h2 h8
    · rw [if_neg fun x => h2 x.2.1] at hr
      simp only [Prod.mk.injEq] at hr
      rw [← hr.1, ← hr.2]
      exact impl_ReadPin.bad1 a0 hf A1 l1.length c1 a2 w hs (by simpa using h2)
  · rw [if_neg fun x => hf x.1] at hr
    simp only [Prod.mk.injEq] at hr
    rw [← hr.1, ← hr.2]
    exact impl_ReadPin.bad0 a0 A1 l1.length c1 a2 w (fun h => hf (.inl h)) (fun h => hf (.inr h))
end Go.Proofs.Ytiejallnkgllnaa
namespace Go.Proofs.Ytiejallnkgllnaa
open Go.RowKit Go.Proofs.YtiejallnkgllnaaW.PrintWords Go.Proofs.YtiejallnkgllnaaW.PrintLast Go.Proofs.YtiejallnkgllnaaW.PrintMore Go.Proofs.Ytiejallnkgllnaa.D
open Go.Proofs.Ytiejallnkgllnaa.LQ
set_option linter.unusedVariables false
theorem byte_rd (l : List Int) (hb : Bytes l) (i : Int) : 0 ≤ rd l i ∧ rd l i ≤ 255 := by
  unfold rd
  rw [List.getD_eq_getElem?_getD]
  cases h : l[i.toNat]? with
  | none => exact ⟨Int.le_refl _, by decide⟩
  | some v => exact hb v (List.mem_of_getElem? h)
theorem next_some (l : List Int) (hb : Bytes l) (hl : l.length ≤ 1048576) (p : Int) (hp : 0 ≤ p ∧ p ≤ l.length) : ∃ c q, spec_l1R_next.f l p = some (c, q) ∧ (0 ≤ c ∧ c ≤ 255) ∧ 0 ≤ q ∧ q ≤ l.length := by
  unfold spec_l1R_next.f
  by_cases h : p ≥ (l.length : Int)
  · rw [if_pos h]
    exact ⟨_, _, rfl, by decide, hp⟩
  · have hc := byte_rd l hb p
    rw [if_neg h, if_pos hp.1, if_pos (by omega), w64_of (by omega), w64_of (by omega)]
    exact ⟨_, _, rfl, hc, by omega, by omega⟩
theorem some_loop (l : List Int) (hb : Bytes l) (hl : l.length ≤ 1048576) : ∀ (d : Nat) (acc : List Int) (p : Int), d ≤ 1000 → acc.length ≤ 1000000 → Bytes acc → (0 ≤ p ∧ p ≤ l.length) → acc.length + d ≤ 1000000 → ∀ k, d < k →
    ∃ r q, spec_l1Some.l0 k (d : Int) acc l p = some (r, q) ∧ r.length = acc.length + d ∧ Bytes r ∧ 0 ≤ q ∧ q ≤ l.length
  | 0, acc, p, _, _, hba, hp, _, k + 1, _ => by
    rw [spec_l1Some.l0, if_neg (by omega)]
    exact ⟨_, _, rfl, rfl, hba, hp⟩
  | d + 1, acc, p, hd, ha, hba, hp, had, k + 1, hk => by
    obtain ⟨c, q, hn, hc, hq⟩ := next_some l hb hl p hp
    have hw : wrap64 (((d + 1 : Nat) : Int) - 1) = (d : Int) := by rw [w64_of (by omega)]; omega
    rw [spec_l1Some.l0, if_pos (by omega), hn, Option.bind_some, if_pos (by omega), hw]
    obtain ⟨r, q', h1, h2, h3⟩ := some_loop l hb hl d (acc ++ [c % 256]) q (by omega) (by rw [List.length_append, List.length_singleton]; omega) (hba.append (fun x hx => by rw [List.mem_singleton.1 hx]; omega)) hq (by rw [List.length_append, List.length_singleton]; omega) k (by omega)
    exact ⟨r, q', h1, by rw [h2, List.length_append, List.length_singleton]; omega, h3⟩
theorem some_some (l : List Int) (hb : Bytes l) (hl : l.length ≤ 1048576) (p : Int) (hp : 0 ≤ p ∧ p ≤ l.length) (n : Int) (hn : 0 ≤ n ∧ n ≤ 1000) (k : Nat) (hk : n.toNat < k) :
    ∃ r q, spec_l1Some.f k l p n = some (r, q) ∧ r.length = n.toNat ∧ Bytes r ∧ 0 ≤ q ∧ q ≤ l.length := by
  obtain ⟨r, q, h1, h2, h3⟩ := some_loop l hb hl n.toNat [] p (by omega) (by simp) (fun x hx => by cases hx) hp (by simp; omega) k hk
  have e : ((n.toNat : Nat) : Int) = n := by omega
  rw [e] at h1
  exact ⟨r, q, h1, by rw [h2]; simp, h3⟩
theorem ksn_some (l : List Int) (hb : Bytes l) (hl : l.length ≤ 1048576) (p : Int) (hp : 0 ≤ p ∧ p ≤ l.length) (k : Nat) (hk : 20 ≤ k) : ∃ ksn q, spec_l3Ksn.f k l p = some (ksn, q) ∧ ksn.length = 10 ∧ Bytes ksn ∧ 0 ≤ q ∧ q ≤ l.length := by
  obtain ⟨r, q0, h0, h1, h2, h3⟩ := some_some l hb hl p hp 7 (by decide) k (by show 7 < k; omega)
  obtain ⟨c1, q1, n1, hc1, hq1⟩ := next_some l hb hl q0 h3
  obtain ⟨c2, q2, n2, hc2, hq2⟩ := next_some l hb hl q1 hq1
  obtain ⟨c3, q3, n3, hc3, hq3⟩ := next_some l hb hl q2 hq2
  obtain ⟨c4, q4, n4, hc4, hq4⟩ := next_some l hb hl q3 hq3
  have h1' : r.length = 7 := h1
  unfold spec_l3Ksn.f
  rw [h0, Option.bind_some]
  dsimp only
  rw [n1, Option.bind_some]
  dsimp only
  by_cases h : Int.tmod c1 4 = 3
  · rw [if_pos h, n2, Option.bind_some]
    dsimp only
    rw [n3, Option.bind_some]
    dsimp only
    rw [n4, Option.bind_some, Option.bind_some, if_pos (by rw [h1']; show 7 + 3 < _; decide)]
    refine ⟨_, _, rfl, by rw [List.length_append, h1']; rfl, h2.append ?_, hq4⟩
    intro x hx
    simp only [List.mem_cons, List.not_mem_nil, or_false] at hx
    rcases hx with rfl | rfl | rfl <;> omega
  · rw [if_neg h, n2, Option.bind_some]
    dsimp only
    rw [n3, Option.bind_some]
    dsimp only
    rw [n4, Option.bind_some, Option.bind_some, if_pos (by rw [h1']; show 7 + 3 < _; decide)]
    refine ⟨_, _, rfl, by rw [List.length_append, h1']; rfl, h2.append ?_, hq4⟩
    intro x hx
    simp only [List.mem_cons, List.not_mem_nil, or_false] at hx
    rcases hx with rfl | rfl | rfl <;> omega
/-- A text of so many digits. -/
def DigT (s : ByteArray) (n : Nat) : Prop := s.size = n ∧ ∀ x ∈ bI s, 48 ≤ x ∧ x ≤ 57
theorem bI_str (L : List Int) (h : ∀ x ∈ L, 48 ≤ x ∧ x ≤ 57) : bI (strOfNums L) = L := by
  unfold bI strOfNums
  show List.map _ (List.map _ L).toArray.toList = L
  rw [List.toList_toArray, List.map_map]
  conv => rhs; rw [← List.map_id L]
  refine List.map_congr_left fun x hx => ?_
  have := h x hx
  simp only [Function.comp, id]
  rw [UInt8.toNat_ofNat']
  omega
theorem text_loop (l : List Int) (hb : Bytes l) (hl : l.length ≤ 1048576) : ∀ (d : Nat) (acc : List Int) (p : Int), (∀ x ∈ acc, 48 ≤ x ∧ x ≤ 57) → (0 ≤ p ∧ p ≤ l.length) → acc.length + d ≤ 1000 → ∀ k, d < k →
    ∃ r q, spec_l4Text.l0 k (d : Int) acc l p = some (r, q) ∧ DigT r (acc.length + d) ∧ 0 ≤ q ∧ q ≤ l.length
  | 0, acc, p, hba, hp, had, k + 1, _ => by
    rw [spec_l4Text.l0, if_neg (by omega)]
    have e := bI_str acc hba
    exact ⟨_, _, rfl, ⟨by rw [← bI_length, e]; rfl, by rw [e]; exact hba⟩, hp⟩
  | d + 1, acc, p, hba, hp, had, k + 1, hk => by
    obtain ⟨c, q, hn, hc, hq⟩ := next_some l hb hl p hp
    have hw : wrap64 (((d + 1 : Nat) : Int) - 1) = (d : Int) := by rw [w64_of (by omega)]; omega
    have ht : Int.tmod c 10 = c % 10 := Int.tmod_eq_emod_of_nonneg hc.1
    have hx : wrap64 (48 + Int.tmod c 10) % 256 = 48 + c % 10 := by rw [ht, w64_of (by omega)]; omega
    rw [spec_l4Text.l0, if_pos (by omega), hn, Option.bind_some, if_pos (by omega), hw]
    dsimp only
    rw [hx]
    obtain ⟨r, q', h1, h2, h3⟩ := text_loop l hb hl d (acc ++ [48 + c % 10]) q (fun x hx => by
      rcases List.mem_append.1 hx with h | h
      · exact hba x h
      · rw [List.mem_singleton.1 h]; omega) hq (by rw [List.length_append, List.length_singleton]; omega) k (by omega)
    exact ⟨r, q', h1, ⟨by rw [h2.1, List.length_append, List.length_singleton]; omega, h2.2⟩, h3⟩
theorem text_some (l : List Int) (hb : Bytes l) (hl : l.length ≤ 1048576) (p : Int) (hp : 0 ≤ p ∧ p ≤ l.length) (n : Nat) (hn : n ≤ 1000) (k : Nat) (hk : n < k) :
    ∃ r q, spec_l4Text.f k l p (n : Int) = some (r, q) ∧ DigT r n ∧ 0 ≤ q ∧ q ≤ l.length := by
  obtain ⟨r, q, h1, h2, h3⟩ := text_loop l hb hl n [] p (fun x hx => by cases hx) hp (by simp; omega) k hk
  exact ⟨r, q, h1, by simpa using h2, h3⟩
theorem pin_some (l : List Int) (hb : Bytes l) (hl : l.length ≤ 1048576) (p : Int) (hp : 0 ≤ p ∧ p ≤ l.length) (k : Nat) (hk : 100 ≤ k) :
    ∃ r q n, spec_l4Pin.f k l p = some (r, q) ∧ DigT r n ∧ 4 ≤ n ∧ n ≤ 12 ∧ 0 ≤ q ∧ q ≤ l.length := by
  obtain ⟨c, q, hn, hc, hq⟩ := next_some l hb hl p hp
  have ht : Int.tmod c 9 = c % 9 := Int.tmod_eq_emod_of_nonneg hc.1
  have hx : wrap64 (4 + Int.tmod c 9) = (((4 + c % 9).toNat : Nat) : Int) := by rw [ht, w64_of (by omega)]; omega
  obtain ⟨r, q', h1, h2, h3⟩ := text_some l hb hl q hq (4 + c % 9).toNat (by omega) k (by omega)
  refine ⟨r, q', _, ?_, h2, by omega, by omega, h3⟩
  unfold spec_l4Pin.f
  rw [hn, Option.bind_some]
  dsimp only
  rw [hx, h1]
  rfl
theorem pan_some (l : List Int) (hb : Bytes l) (hl : l.length ≤ 1048576) (p : Int) (hp : 0 ≤ p ∧ p ≤ l.length) (k : Nat) (hk : 100 ≤ k) :
    ∃ r q n, spec_l4Pan.f k l p = some (r, q) ∧ DigT r n ∧ 13 ≤ n ∧ n ≤ 19 ∧ 0 ≤ q ∧ q ≤ l.length := by
  obtain ⟨c, q, hn, hc, hq⟩ := next_some l hb hl p hp
  have ht : Int.tmod c 7 = c % 7 := Int.tmod_eq_emod_of_nonneg hc.1
  have hx : wrap64 (13 + Int.tmod c 7) = (((13 + c % 7).toNat : Nat) : Int) := by rw [ht, w64_of (by omega)]; omega
  obtain ⟨r, q', h1, h2, h3⟩ := text_some l hb hl q hq (13 + c % 7).toNat (by omega) k (by omega)
  refine ⟨r, q', _, ?_, h2, by omega, by omega, h3⟩
  unfold spec_l4Pan.f
  rw [hn, Option.bind_some]
  dsimp only
  rw [hx, h1]
  rfl
theorem format_some (l : List Int) (hb : Bytes l) (hl : l.length ≤ 1048576) (p : Int) (hp : 0 ≤ p ∧ p ≤ l.length) : ∃ f q, spec_l4Format.f l p = some (f, q) ∧ (f = 0 ∨ f = 3) ∧ 0 ≤ q ∧ q ≤ l.length := by
  obtain ⟨c, q, hn, hc, hq⟩ := next_some l hb hl p hp
  have ht : Int.tmod c 2 = c % 2 := Int.tmod_eq_emod_of_nonneg hc.1
  refine ⟨_, _, by unfold spec_l4Format.f; rw [hn, Option.bind_some], ?_, hq⟩
  dsimp only
  rw [ht, w64_of (by omega)]
  omega
theorem key_some (l : List Int) (hb : Bytes l) (hl : l.length ≤ 1048576) (p : Int) (hp : 0 ≤ p ∧ p ≤ l.length) (use : Int) (k : Nat) (hk : 100 ≤ k) : ∃ gen key q, spec_l3Key.f k l p use = some (use, gen, key, q) ∧ (0 ≤ gen ∧ gen ≤ 255) ∧ key.length = 16 ∧ Bytes key ∧ 0 ≤ q ∧ q ≤ l.length := by
  obtain ⟨c, q, hn, hc, hq⟩ := next_some l hb hl p hp
  obtain ⟨r, q', h1, h2, h3, h4⟩ := some_some l hb hl q hq 16 (by decide) k (by show 16 < k; omega)
  have ht : Int.tmod c 4 = c % 4 := Int.tmod_eq_emod_of_nonneg hc.1
  unfold spec_l3Key.f
  rw [hn, Option.bind_some]
  dsimp only
  by_cases h : c > 200
  · rw [if_pos h, h1, Option.bind_some]
    exact ⟨c, r, q', rfl, hc, h2, h3, h4⟩
  · rw [if_neg h, h1, Option.bind_some]
    exact ⟨_, r, q', rfl, by rw [ht]; omega, h2, h3, h4⟩
end Go.Proofs.Ytiejallnkgllnaa
namespace Go.Proofs.Ytiejallnkgllnaa
open Go.RowKit Go.Proofs.YtiejallnkgllnaaW.PrintWords Go.Proofs.YtiejallnkgllnaaW.PrintLast Go.Proofs.YtiejallnkgllnaaW.PrintMore Go.Proofs.Ytiejallnkgllnaa.D
open Go.Proofs.Ytiejallnkgllnaa.B (xorL xorL_length)
open Go.Proofs.Ytiejallnkgllnaa.LQ
set_option linter.unusedVariables false
def G8 (l : List Int) : Prop := l.length = 8 ∧ Bytes l
theorem G16.take8 {l : List Int} (h : G16 l) : G8 (l.take 8) := ⟨by simp; have := h.1; omega, fun x hx => h.2 x (List.mem_of_mem_take hx)⟩
theorem G16.drop8 {l : List Int} (h : G16 l) : G8 (l.drop 8) := ⟨by simp; have := h.1; omega, fun x hx => h.2 x (List.mem_of_mem_drop hx)⟩
theorem G8.app {a b : List Int} (h : G8 a) (h' : G8 b) : G16 (a ++ b) := ⟨by rw [List.length_append, h.1, h'.1], app_bytes h.2 h'.2⟩
theorem des_some (a b : List Int) (ha : G8 a) (hb : G8 b) (dec : Bool) : ∃ y, G8 y ∧ spec_Des.f a b dec = some y :=
  ⟨desL a b dec, ⟨desL_length a b dec hb.1, desL_bytes a b dec hb.1⟩, by rw [spec_Des_eq a b dec ha.2 hb.2, if_pos ⟨ha.1, hb.1⟩]⟩
theorem tdea_some (a b : List Int) (ha : G16 a) (hb : G8 b) (dec : Bool) (k : Nat) (hk : 0 < k) : ∃ y, G8 y ∧ spec_Tdea.f k a b dec = some y := by
  obtain ⟨k, rfl⟩ : ∃ m, k = m + 1 := ⟨k - 1, by omega⟩
  have a1 := ha.1
  have b1 := hb.1
  obtain ⟨x, hx, ex⟩ := des_some (a.take 8) b ha.take8 hb dec
  obtain ⟨y, hy, ey⟩ := des_some (a.drop 8) x ha.drop8 hx (!dec)
  obtain ⟨z, hz, ez⟩ := des_some (a.take 8) y ha.take8 hy dec
  refine ⟨z, hz, ?_⟩
  unfold spec_Tdea.f
  rw [if_pos (by omega), spec_Tdea.j0, if_neg (by simp; omega), if_pos (by omega), ex, Option.bind_some, ey, Option.bind_some, ez, Option.bind_some]
/-- Where the lengths are others nothing comes out. -/
theorem tdea_any (a b : List Int) (ha : Bytes a) (hb : Bytes b) (dec : Bool) (k : Nat) (hk : 0 < k) : ∃ y, Bytes y ∧ y.length ≤ 8 ∧ spec_Tdea.f k a b dec = some y := by
  by_cases h1 : a.length = 16
  · by_cases h2 : b.length = 8
    · obtain ⟨y, hy, e⟩ := tdea_some a b ⟨h1, ha⟩ ⟨h2, hb⟩ dec k hk
      exact ⟨y, hy.2, by rw [hy.1]; exact Nat.le_refl _, e⟩
    · obtain ⟨k, rfl⟩ : ∃ m, k = m + 1 := ⟨k - 1, by omega⟩
      refine ⟨[], (fun x hx => by cases hx), by simp, ?_⟩
      unfold spec_Tdea.f
      rw [if_pos (by omega), spec_Tdea.j0, if_pos (by simp; omega)]
  · obtain ⟨k, rfl⟩ : ∃ m, k = m + 1 := ⟨k - 1, by omega⟩
    refine ⟨[], (fun x hx => by cases hx), by simp, ?_⟩
    unfold spec_Tdea.f
    rw [if_neg (by omega), spec_Tdea.j0, if_pos rfl]
theorem xor8_some (a b : List Int) (ha : G8 a) (hb : G8 b) (k : Nat) (hk : 8 < k) : spec_l1Xor.f k a b = some (xorL a b) ∧ G8 (xorL a b) := by
  have h1 := ha.1
  have h2 := hb.1
  exact ⟨B.spec_xor_eq a b (by omega) (by omega) k (by omega), by rw [xorL_length _ _ (by omega)]; exact h1, xorL_bytes _ _ ha.2 hb.2⟩
theorem half_some (key r8 : List Int) (hk : G16 key) (hr : G8 r8) (k : Nat) (hkk : 20 < k) : ∃ y, G8 y ∧ spec_l3Half.f k key r8 = some y := by
  have a1 := hk.1
  obtain ⟨x1, g1⟩ := xor8_some r8 (key.drop 8) hr hk.drop8 k (by omega)
  obtain ⟨y, hy, ey⟩ := des_some (key.take 8) _ hk.take8 g1 false
  obtain ⟨x2, g2⟩ := xor8_some y (key.drop 8) hy hk.drop8 k (by omega)
  refine ⟨_, g2, ?_⟩
  unfold spec_l3Half.f
  rw [if_pos (by omega), x1, Option.bind_some, ey, Option.bind_some, x2, Option.bind_some]
theorem variant_some (key : List Int) (hk : G16 key) (k : Nat) (hkk : 10 < k) : ∃ y, G16 y ∧ spec_Variant.f k key 1 = some y := by
  obtain ⟨k, rfl⟩ : ∃ m, k = m + 1 + 1 + 1 + 1 := ⟨k - 4, by omega⟩
  have a1 := hk.1
  have h1 := hk.set 7 _ (xor_byte (rd key 7) 255 (hk.rd 7 (by omega)) (by omega))
  have h1l := h1.1
  have h2 := h1.set 15 _ (xor_byte (rd (key.set 7 (Go.bits .xor .u8 (rd key 7) 255)) 15) 255 (h1.rd 15 (by omega)) (by omega))
  refine ⟨_, h2, ?_⟩
  have r0 : rd ([7, 15] : List Int) 0 = 7 := rfl
  have r1 : rd ([7, 15] : List Int) 1 = 15 := rfl
  have w1 : wrap64 (0 + 1) = 1 := by rw [w64_of (by decide)]; rfl
  have w2 : wrap64 (1 + 1) = 2 := by rw [w64_of (by decide)]; rfl
  have l2 : (([7, 15] : List Int).length : Int) = 2 := rfl
  unfold spec_Variant.f
  rw [if_pos (by omega), if_pos rfl, spec_Variant.j0, if_neg (by decide), bytes_some key (by omega), Option.bind_some, Option.bind_some, l2, spec_Variant.l0, if_pos (by decide), if_pos (by decide), l2, if_pos (by decide), if_neg (by decide), r0, if_pos (by decide), if_pos (by omega), w1, spec_Variant.l0, if_pos (by decide), if_pos (by decide), l2, if_pos (by decide), if_neg (by decide), r1, if_pos (by decide), if_pos (by rw [show (7 : Int).toNat = 7 from rfl]; omega), w2, spec_Variant.l0, if_neg (by decide)]
  rfl
end Go.Proofs.Ytiejallnkgllnaa
namespace Go.Proofs.Ytiejallnkgllnaa
open Go.RowKit Go.Proofs.YtiejallnkgllnaaW.PrintWords Go.Proofs.YtiejallnkgllnaaW.PrintLast Go.Proofs.YtiejallnkgllnaaW.PrintMore Go.Proofs.Ytiejallnkgllnaa.D
open Go.Proofs.Ytiejallnkgllnaa.B (xorL xorL_length)
open Go.Proofs.Ytiejallnkgllnaa.LQ
set_option linter.unusedVariables false
set_option linter.unusedSimpArgs false
def baseL (ksn : List Int) : List Int := ((ksn.set 7 (Go.bits .and .u8 (nth ksn 7) 224)).set 8 0).set 9 0
theorem ten (l : List Int) (h : l.length = 10) : ∃ a b c d e f g i j k, l = [a, b, c, d, e, f, g, i, j, k] := by
  match l, h with
  | [a, b, c, d, e, f, g, i, j, k], _ => exact ⟨_, _, _, _, _, _, _, _, _, _, rfl⟩
theorem andNot_byte (x : Int) (hx : 0 ≤ x ∧ x ≤ 255) : Go.bits .andNot .u8 x 31 = Go.bits .and .u8 x 224 ∧ 0 ≤ Go.bits .and .u8 x 224 ∧ Go.bits .and .u8 x 224 ≤ 255 := by
  obtain ⟨⟨n, rfl⟩, h1⟩ : (∃ n : Nat, x = n) ∧ x ≤ 255 := ⟨⟨x.toNat, by omega⟩, hx.2⟩
  exact of_decide_eq_true ((List.all_eq_true.1 (show ((List.range 256).all fun i => decide (Go.bits .andNot .u8 (i : Int) 31 = Go.bits .and .u8 (i : Int) 224 ∧ 0 ≤ Go.bits .and .u8 (i : Int) 224 ∧ Go.bits .and .u8 (i : Int) 224 ≤ 255)) = true by decide +kernel)) n (List.mem_range.2 (by omega)))
theorem baseL_good (ksn : List Int) (h : ksn.length = 10) (hb : Bytes ksn) : (baseL ksn).length = 10 ∧ Bytes (baseL ksn) := by
  refine ⟨by simp [baseL, h], ?_⟩
  obtain ⟨k0, k1, k2, k3, k4, k5, k6, k7, k8, k9, rfl⟩ := ten ksn h
  have h7 := (andNot_byte k7 (hb k7 (by simp))).2
  intro x hx
  simp [baseL, nth] at hx
  rcases hx with rfl | rfl | rfl | rfl | rfl | rfl | rfl | rfl | rfl
  all_goals first | exact h7 | omega | exact hb _ (by simp)
def cntI (ksn : List Int) : Int := Go.bits .or .i64 (Go.bits .or .i64 (wrap64 ((wrap64 (Go.bits .and .u8 (nth ksn 7) 31)) * 65536)) (wrap64 ((wrap64 (nth ksn 8)) * 256))) (wrap64 (nth ksn 9))
theorem l3Count_eq (ksn : List Int) (h : ksn.length = 10) (hb : Bytes ksn) : spec_l3Count.f ksn = some (cntI ksn, baseL ksn) := by
  obtain ⟨k0, k1, k2, k3, k4, k5, k6, k7, k8, k9, rfl⟩ := ten ksn h
  simp [spec_l3Count.f, spec_l1Bytes.f, cntI, baseL, rd, nth]
/-- n with its j lowest bits cleared. -/
def hi (n j : Nat) : Nat := n / 2 ^ j * 2 ^ j
theorem hi_step (n j : Nat) : hi n j = hi n (j + 1) + n / 2 ^ j % 2 * 2 ^ j := by
  unfold hi
  have h1 : n / 2 ^ (j + 1) = n / 2 ^ j / 2 := by rw [Nat.pow_succ, Nat.div_div_eq_div_mul]
  have h2 : 2 ^ (j + 1) = 2 * 2 ^ j := by rw [Nat.pow_succ, Nat.mul_comm]
  rw [h1, h2]
  have h3 := Nat.div_add_mod (n / 2 ^ j) 2
  calc n / 2 ^ j * 2 ^ j = (2 * (n / 2 ^ j / 2) + n / 2 ^ j % 2) * 2 ^ j := by rw [h3]
    _ = n / 2 ^ j / 2 * (2 * 2 ^ j) + n / 2 ^ j % 2 * 2 ^ j := by rw [Nat.add_mul, Nat.mul_comm 2 (n / 2 ^ j / 2), Nat.mul_assoc]
theorem hi_top (n : Nat) (h : n < 2097152) : hi n 21 = 0 := by
  unfold hi
  rw [Nat.div_eq_of_lt (by simpa using h), Nat.zero_mul]
theorem hi_zero (n : Nat) : hi n 0 = n := by simp [hi]
theorem hi_le (n j : Nat) : hi n j ≤ n := Nat.div_mul_le_self n (2 ^ j)
/-- The lowest bit of a number. -/
theorem low_nat (j q : Nat) (h : 2 ^ j * (2 * q + 1) < 2 ^ 64) : 2 ^ j * (2 * q + 1) &&& (2 ^ 64 - 2 ^ j * (2 * q + 1)) = 2 ^ j := by
  have hp : 0 < 2 ^ j := Nat.two_pow_pos j
  obtain ⟨x, hx⟩ : ∃ x, 2 ^ j * (2 * q + 1) = x + 1 := ⟨2 ^ j * (2 * q + 1) - 1, by
    have : 0 < 2 ^ j * (2 * q + 1) := Nat.mul_pos hp (by omega)
    omega⟩
  have hxx : x = 2 ^ j * (2 * q) + (2 ^ j - 1) := by
    have h2 : 2 ^ j * (2 * q + 1) = 2 ^ j * (2 * q) + 2 ^ j := by rw [Nat.mul_add, Nat.mul_one]
    omega
  apply Nat.eq_of_testBit_eq
  intro i
  rw [Nat.testBit_and, hx, Nat.testBit_two_pow_sub_succ (by omega : x < 2 ^ 64), ← hx, hxx, Nat.testBit_two_pow]
  rw [Nat.testBit_two_pow_mul_add _ (by omega : 2 ^ j - 1 < 2 ^ j), Nat.testBit_two_pow_mul]
  by_cases hij : i < j
  · have : ¬ j ≤ i := by omega
    have h' : ¬ j = i := by omega
    simp [this, h', hij]
  · have hji : j ≤ i := by omega
    rw [if_neg hij]
    by_cases he : j = i
    · subst he
      have h64 : j < 64 := by
        rcases Nat.lt_or_ge j 64 with h' | h'
        · exact h'
        · have := Nat.pow_le_pow_right (show 0 < 2 by omega) h'
          have : 2 ^ j ≤ 2 ^ j * (2 * q + 1) := Nat.le_mul_of_pos_right _ (by omega)
          omega
      simp [h64]
    · have hk : i - j = (i - j - 1) + 1 := by omega
      have t1 : (2 * q + 1).testBit (i - j) = q.testBit (i - j - 1) := by rw [hk, Nat.testBit_succ]; congr 1; omega
      have t2 : (2 * q).testBit (i - j) = q.testBit (i - j - 1) := by rw [hk, Nat.testBit_succ]; congr 1; omega
      rw [t1, t2]
      have h' : ¬ j = i := he
      simp [hji, h']
      exact fun a _ => a
theorem low_bits (j q : Nat) (h : 2 ^ j * (2 * q + 1) < 2097152) : Go.bits .and .i64 ((2 ^ j * (2 * q + 1) : Nat) : Int) (wrap64 (-((2 ^ j * (2 * q + 1) : Nat) : Int))) = ((2 ^ j : Nat) : Int) := by
  have hp : 0 < 2 ^ j := Nat.two_pow_pos j
  have hle : 2 ^ j ≤ 2 ^ j * (2 * q + 1) := Nat.le_mul_of_pos_right _ (by omega)
  have hl := low_nat j q (by omega)
  obtain ⟨a, ha⟩ : ∃ a, a = 2 ^ j * (2 * q + 1) := ⟨_, rfl⟩
  rw [← ha] at hl h hle ⊢
  have hw : wrap64 (-(a : Int)) = -(a : Int) := w64_of (by omega)
  rw [hw]
  have e1 : (BitVec.ofInt 64 (a : Int)).toNat = a := by rw [BitVec.ofInt_natCast, BitVec.toNat_ofNat]; omega
  have e2 : (BitVec.ofInt 64 (-(a : Int))).toNat = 2 ^ 64 - a := by rw [BitVec.toNat_ofInt]; omega
  show IntKind.i64.wrap (((BitVec.ofInt 64 (a : Int)) &&& (BitVec.ofInt 64 (-(a : Int)))).toNat : Int) = _
  rw [BitVec.toNat_and, e1, e2, hl, IntKind.wrap_i64]
  omega
theorem hi_odd (n j : Nat) (h : n / 2 ^ j % 2 = 1) : ∃ q, hi n j = 2 ^ j * (2 * q + 1) := by
  refine ⟨n / 2 ^ j / 2, ?_⟩
  unfold hi
  have := Nat.div_add_mod (n / 2 ^ j) 2
  rw [h] at this
  rw [this, Nat.mul_comm]
theorem and224 (x : Int) (hx : 0 ≤ x ∧ x ≤ 255) : Go.bits .and .u8 x 224 = 32 * (x / 32) ∧ Go.bits .and .u8 x 31 = x % 32 := by
  obtain ⟨⟨n, rfl⟩, h1⟩ : (∃ n : Nat, x = n) ∧ x ≤ 255 := ⟨⟨x.toNat, by omega⟩, hx.2⟩
  exact of_decide_eq_true ((List.all_eq_true.1 (show ((List.range 256).all fun i => decide (Go.bits .and .u8 (i : Int) 224 = 32 * ((i : Int) / 32) ∧ Go.bits .and .u8 (i : Int) 31 = (i : Int) % 32)) = true by decide +kernel)) n (List.mem_range.2 (by omega)))
/-- The counter. -/
def cntN (ksn : List Int) : Nat := (nth ksn 7 % 32 * 65536 + nth ksn 8 * 256 + nth ksn 9).toNat
theorem cnt_eq (ksn : List Int) (h : ksn.length = 10) (hb : Bytes ksn) : cntI ksn = (cntN ksn : Int) ∧ cntN ksn < 2097152 := by
  obtain ⟨k0, k1, k2, k3, k4, k5, k6, k7, k8, k9, rfl⟩ := ten ksn h
  have b7 := hb k7 (by simp)
  have b8 := hb k8 (by simp)
  have b9 := hb k9 (by simp)
  have e31 := (and224 k7 b7).2
  have n7 : nth [k0, k1, k2, k3, k4, k5, k6, k7, k8, k9] 7 = k7 := rfl
  have n8 : nth [k0, k1, k2, k3, k4, k5, k6, k7, k8, k9] 8 = k8 := rfl
  have n9 : nth [k0, k1, k2, k3, k4, k5, k6, k7, k8, k9] 9 = k9 := rfl
  have hN : (cntN [k0, k1, k2, k3, k4, k5, k6, k7, k8, k9] : Int) = k7 % 32 * 65536 + k8 * 256 + k9 := by unfold cntN; rw [n7, n8, n9]; omega
  have wu : ∀ x : Int, 0 ≤ x → x < 4294967296 → IntKind.u64.wrap x = x := fun x h0 h1 => by rw [IntKind.wrap_u64]; omega
  have wi : ∀ x : Int, 0 ≤ x → x < 4294967296 → wrap64 x = x := fun x h0 h1 => w64_of (by omega)
  have ki : ∀ n : Int, 0 ≤ n → n < 2 ^ 63 → IntKind.i64.wrap n = n := fun n h0 h1 => by rw [IntKind.wrap_i64]; omega
  have ku : ∀ n : Int, 0 ≤ n → n < 2 ^ 64 → IntKind.u64.wrap n = n := fun n h0 h1 => by rw [IntKind.wrap_u64]; omega
  refine ⟨?_, by omega⟩
  · unfold cntI
    rw [n7, n8, n9, e31, wi (k7 % 32) (by omega) (by omega), wi (k7 % 32 * 65536) (by omega) (by omega), wi k8 (by omega) (by omega), wi (k8 * 256) (by omega) (by omega), wi k9 (by omega) (by omega),
      bits_join .i64 63 (by decide) ki 16 (k7 % 32 * 65536) (k8 * 256) (by omega) (by omega) (by omega) (by omega) (by omega) (by omega),
      bits_join .i64 63 (by decide) ki 8 (k7 % 32 * 65536 + k8 * 256) k9 (by omega) (by omega) (by omega) (by omega) (by omega) (by omega), hN]
theorem or_byte (x y : Int) (hx : 0 ≤ x ∧ x ≤ 255) (hy : 0 ≤ y ∧ y ≤ 255) : 0 ≤ Go.bits .or .u8 x y ∧ Go.bits .or .u8 x y ≤ 255 := by
  obtain ⟨⟨n, rfl⟩, h1⟩ : (∃ n : Nat, x = n) ∧ x ≤ 255 := ⟨⟨x.toNat, by omega⟩, hx.2⟩
  obtain ⟨⟨m, rfl⟩, h2⟩ : (∃ n : Nat, y = n) ∧ y ≤ 255 := ⟨⟨y.toNat, by omega⟩, hy.2⟩
  have h := (List.all_eq_true.1 (show ((List.range 256).all fun i => (List.range 256).all fun j => decide (0 ≤ Go.bits .or .u8 (i : Int) (j : Int) ∧ Go.bits .or .u8 (i : Int) (j : Int) ≤ 255)) = true by decide +kernel)) n (List.mem_range.2 (by omega))
  exact of_decide_eq_true ((List.all_eq_true.1 h) m (List.mem_range.2 (by omega)))
def c0L : List Int := [192, 192, 192, 192, 0, 0, 0, 0, 192, 192, 192, 192, 0, 0, 0, 0]
theorem c0_eq : spec_l3C0.f = some c0L := by simp [spec_l3C0.f, c0L]
theorem c0_good : G16 c0L := ⟨rfl, by unfold Bytes c0L; decide⟩
theorem init_some (bdk ksn : List Int) (hk : G16 bdk) (h : ksn.length = 10) (hb : Bytes ksn) (k : Nat) (hkk : 30 < k) : ∃ y, G16 y ∧ spec_DukptInitial.f k bdk ksn = some y := by
  obtain ⟨k, rfl⟩ : ∃ m, k = m + 1 := ⟨k - 1, by omega⟩
  have a1 := hk.1
  obtain ⟨b1, b2⟩ := baseL_good ksn h hb
  have g8 : G8 ((baseL ksn).take 8) := ⟨by simp; omega, fun x hx => b2 x (List.mem_of_mem_take hx)⟩
  obtain ⟨x, hx, ex⟩ := tdea_some bdk _ hk g8 false k (by omega)
  obtain ⟨e2, g2⟩ := xor16 bdk c0L hk c0_good k (by omega)
  obtain ⟨y, hy, ey⟩ := tdea_some _ _ g2 g8 false k (by omega)
  have x1 := hx.1
  have y1 := hy.1
  refine ⟨x ++ y, hx.app hy, ?_⟩
  unfold spec_DukptInitial.f
  rw [if_pos (by omega), spec_DukptInitial.j0, if_neg (by simp; omega), l3Count_eq ksn h hb, Option.bind_some]
  dsimp only
  rw [if_pos (by omega), ex, Option.bind_some, c0_eq, Option.bind_some, e2, Option.bind_some, ey, Option.bind_some, if_pos (by omega)]
theorem walk_one (k : Nat) (bdk ksn : List Int) (a2 : Int) (h0 : a2 ≠ 0) (h : ksn.length = 10) (hb : Bytes ksn) (h1 : 0 ≤ a2) (h2 : a2 < 2097152) (prev : List Int) (hp : G16 prev) (hk : 30 < k)
    (hrec : spec_l3Walk.f k bdk ksn (wrap64 (a2 - (Go.bits .and .i64 a2 (wrap64 (-a2))))) = some prev) : ∃ y, G16 y ∧ spec_l3Walk.f (k + 1) bdk ksn a2 = some y := by
  obtain ⟨b1, b2⟩ := baseL_good ksn h hb
  obtain ⟨R, hR⟩ : ∃ R, R = ((((baseL ksn).set (7 : Int).toNat (Go.bits .or .u8 (rd (baseL ksn) 7) ((a2 / 65536) % 256))).set (8 : Int).toNat ((a2 / 256) % 256)).set (9 : Int).toNat ((a2) % 256)) := ⟨_, rfl⟩
  have hRl : R.length = 10 := by rw [hR]; simp; exact b1
  have hRb : Bytes R := by
    rw [hR]
    intro x hx
    rcases List.mem_or_eq_of_mem_set hx with hx | rfl
    · rcases List.mem_or_eq_of_mem_set hx with hx | rfl
      · rcases List.mem_or_eq_of_mem_set hx with hx | rfl
        · exact b2 x hx
        · exact or_byte _ _ (bytes_rd b2 7 (by omega)) (by omega)
      · omega
    · omega
  have g8 : G8 (R.drop 2) := ⟨by simp; omega, fun x hx => hRb x (List.mem_of_mem_drop hx)⟩
  obtain ⟨e1, g1⟩ := xor16 prev c0L hp c0_good k (by omega)
  obtain ⟨x, hx, ex⟩ := half_some _ _ g1 g8 k (by omega)
  obtain ⟨y, hy, ey⟩ := half_some prev _ hp g8 k (by omega)
  have x1 := hx.1
  have y1 := hy.1
  refine ⟨x ++ y, hx.app hy, ?_⟩
  rw [spec_l3Walk.f, if_neg h0, hrec, Option.bind_some, l3Count_eq ksn h hb, Option.bind_some]
  dsimp only
  rw [if_pos (by omega), if_pos (by omega), if_pos (by omega), Option.bind_some, c0_eq, Option.bind_some, e1, Option.bind_some, if_pos (by omega), ← hR, ex, Option.bind_some, ey, Option.bind_some, if_pos (by omega)]
theorem walk_some (bdk ksn : List Int) (n : Nat) (hk : G16 bdk) (h : ksn.length = 10) (hb : Bytes ksn) (hn : n < 2097152) : ∀ s, s ≤ 21 → ∀ k, s + 40 ≤ k → ∃ y, G16 y ∧ spec_l3Walk.f k bdk ksn ((hi n (21 - s) : Nat) : Int) = some y
  | 0, _, k, hk3 => by
    obtain ⟨k', rfl⟩ : ∃ k', k = k' + 1 := ⟨k - 1, by omega⟩
    obtain ⟨y, hy, e⟩ := init_some bdk ksn hk h hb k' (by omega)
    refine ⟨y, hy, ?_⟩
    rw [hi_top n hn, spec_l3Walk.f, if_pos (show ((0 : Nat) : Int) = 0 from rfl), e, Option.bind_some]
  | s + 1, hs, k, hk3 => by
    obtain ⟨k', rfl⟩ : ∃ k', k = k' + 1 := ⟨k - 1, by omega⟩
    have hst := hi_step n (20 - s)
    rw [show 20 - s + 1 = 21 - s by omega] at hst
    have e1 : 21 - (s + 1) = 20 - s := by omega
    rw [e1]
    by_cases hbit : n / 2 ^ (20 - s) % 2 = 1
    · obtain ⟨q, hq⟩ := hi_odd n (20 - s) hbit
      have hle := hi_le n (20 - s)
      have hp : 0 < 2 ^ (20 - s) := Nat.two_pow_pos _
      have hlow := low_bits (20 - s) q (by omega)
      rw [← hq] at hlow
      obtain ⟨prev, hpr, hrec⟩ := walk_some bdk ksn n hk h hb hn s (by omega) k' (by omega)
      rw [hbit, Nat.one_mul] at hst
      refine walk_one k' bdk ksn _ (by omega) h hb (by omega) (by omega) prev hpr (by omega) ?_
      rw [hlow, w64_of (by omega), show ((hi n (20 - s) : Nat) : Int) - ((2 ^ (20 - s) : Nat) : Int) = ((hi n (21 - s) : Nat) : Int) by omega]
      exact hrec
    · have hz : n / 2 ^ (20 - s) % 2 = 0 := by omega
      rw [hz, Nat.zero_mul, Nat.add_zero] at hst
      rw [hst]
      exact walk_some bdk ksn n hk h hb hn s (by omega) (k' + 1) (by omega)
theorem dukpt_some (bdk ksn : List Int) (hk : G16 bdk) (h : ksn.length = 10) (hb : Bytes ksn) (k : Nat) (hkk : 100 < k) : ∃ y, G16 y ∧ spec_DukptKey.f k bdk ksn = some y := by
  obtain ⟨k, rfl⟩ : ∃ m, k = m + 1 := ⟨k - 1, by omega⟩
  obtain ⟨c1, c2⟩ := cnt_eq ksn h hb
  have a1 := hk.1
  obtain ⟨y, hy, e⟩ := walk_some bdk ksn (cntN ksn) hk h hb c2 21 (by omega) k (by omega)
  refine ⟨y, hy, ?_⟩
  rw [Nat.sub_self, hi_zero] at e
  unfold spec_DukptKey.f
  rw [if_pos (by omega), spec_DukptKey.j0, if_neg (by simp; omega), l3Count_eq ksn h hb, Option.bind_some]
  dsimp only
  rw [c1, e, Option.bind_some]
end Go.Proofs.Ytiejallnkgllnaa
namespace Go.Proofs.Ytiejallnkgllnaa
open Go.RowKit Go.Proofs.YtiejallnkgllnaaW.PrintWords Go.Proofs.YtiejallnkgllnaaW.PrintLast Go.Proofs.YtiejallnkgllnaaW.PrintMore Go.Proofs.Ytiejallnkgllnaa.D Go.Proofs.Ytiejallnkgllnaa.LQ
open Go.Proofs.Ytiejallnkgllnaa.B (xorL xorL_length)
set_option linter.unusedVariables false
theorem pack_nibL : ∀ b : List Int, packL (nibL b) = b
  | [] => rfl
  | x :: b => by
    have : nibL (x :: b) = x / 16 :: x % 16 :: nibL b := rfl
    rw [this, packL, pack_nibL b]
    congr 1
    omega
theorem nibL_pack : ∀ (n : Nat) (ds : List Int), ds.length = 2 * n → Nibs ds → nibL (packL ds) = ds
  | 0, [], _, _ => rfl
  | n + 1, a :: b :: ds, h, hn => by
    have ha := hn a (by simp)
    have hb := hn b (by simp)
    have i := nibL_pack n ds (by simp at h; omega) fun x hx => hn x (by simp [hx])
    rw [packL]
    have : nibL ((16 * a + b) :: packL ds) = (16 * a + b) / 16 :: (16 * a + b) % 16 :: nibL (packL ds) := rfl
    rw [this, i]
    congr 1
    · omega
    · congr 1
      omega
theorem pack_bytes : ∀ (n : Nat) (ds : List Int), ds.length = 2 * n → Nibs ds → Bytes (packL ds)
  | 0, [], _, _ => fun x hx => by simp [packL] at hx
  | n + 1, a :: b :: ds, h, hn => by
    have ha := hn a (by simp)
    have hb := hn b (by simp)
    have i := pack_bytes n ds (by simp at h; omega) fun x hx => hn x (by simp [hx])
    intro x hx
    rw [packL] at hx
    rcases List.mem_cons.1 hx with rfl | hx
    · omega
    · exact i x hx
theorem nib_twice (a b : Int) (ha : 0 ≤ a ∧ a ≤ 15) (hb : 0 ≤ b ∧ b ≤ 15) : Go.bits .xor .u8 (Go.bits .xor .u8 a b) b = a := by
  obtain ⟨⟨a, rfl⟩, ha⟩ : (∃ n : Nat, a = n) ∧ a ≤ 15 := ⟨⟨a.toNat, by omega⟩, ha.2⟩
  obtain ⟨⟨b, rfl⟩, hb⟩ : (∃ n : Nat, b = n) ∧ b ≤ 15 := ⟨⟨b.toNat, by omega⟩, hb.2⟩
  have h := (List.all_eq_true.1 (show ((List.range 16).all fun a => (List.range 16).all fun b => decide (Go.bits .xor .u8 (Go.bits .xor .u8 (a : Int) (b : Int)) (b : Int) = (a : Int))) = true by decide +kernel)) a (List.mem_range.2 (by omega))
  exact of_decide_eq_true ((List.all_eq_true.1 h) b (List.mem_range.2 (by omega)))
theorem xorL_twice : ∀ (a b : List Int), a.length = b.length → Nibs a → Nibs b → xorL (xorL a b) b = a
  | [], [], _, _, _ => rfl
  | x :: a, y :: b, h, hn, hm => by
    have e : xorL (xorL (x :: a) (y :: b)) (y :: b) = Go.bits .xor .u8 (Go.bits .xor .u8 x y) y :: xorL (xorL a b) b := rfl
    rw [e, nib_twice x y (hn x (by simp)) (hm y (by simp)), xorL_twice a b (by simpa using h) (fun q hq => hn q (by simp [hq])) (fun q hq => hm q (by simp [hq]))]
theorem rpD_back (ds : List Int) (pan : ByteArray) (h : ds.length = 16) (hn : Nibs ds) (hp : allDg pan = true) (h13 : 13 ≤ pan.size) : rpD (pinBlk ds pan) pan = ds ∧ Bytes (pinBlk ds pan) ∧ (pinBlk ds pan).length = 8 := by
  obtain ⟨e1, e2, e3⟩ := pin_pack ds pan h hn hp h13
  have ha := accD_length pan h13
  have hna := accD_nibs hp
  have hb : Bytes (pinBlk ds pan) := by rw [← e1]; exact pack_bytes 8 _ e3 e2
  have hl : (pinBlk ds pan).length = 8 := by unfold pinBlk; rw [xorL_length _ _ (by rw [outN_length _ _ (by omega), outN_length _ _ (by omega)]; exact Nat.le_refl _), outN_length _ _ (by omega)]
  have hnl : (nibL (pinBlk ds pan)).length = 16 := by rw [nibL_length, hl]
  obtain ⟨i1, i2⟩ := packL_xor 8 (nibL (pinBlk ds pan)) (accD pan) hnl ha (nibL_nibs _ hb) hna
  have i3 : (xorL (nibL (pinBlk ds pan)) (accD pan)).length = 16 := by rw [xorL_length _ _ (by omega), hnl]
  refine ⟨?_, hb, hl⟩
  have e : xorL (pinBlk ds pan) (packL (accD pan)) = packL (xorL (nibL (pinBlk ds pan)) (accD pan)) := by rw [i1, pack_nibL]
  rw [rpD, outN_pack _ ha hna, e, nibL_pack 8 _ i3 i2, ← e1, nibL_pack 8 _ e3 e2, xorL_twice _ _ (by omega) hn hna]
theorem nth_app_lt (a b : List Int) (i : Nat) (h : i < a.length) : nth (a ++ b) i = nth a i := by
  unfold nth
  rw [List.getD_eq_getElem?_getD, List.getD_eq_getElem?_getD, List.getElem?_append_left h]
theorem nth_app_ge (a b : List Int) (i : Nat) (h : a.length ≤ i) : nth (a ++ b) i = nth b (i - a.length) := by
  unfold nth
  rw [List.getD_eq_getElem?_getD, List.getD_eq_getElem?_getD, List.getElem?_append_right h]
theorem nth_mem (a : List Int) (i : Nat) (h : i < a.length) : nth a i ∈ a := by
  unfold nth
  rw [List.getD_eq_getElem?_getD, List.getElem?_eq_getElem h]
  exact List.getElem_mem h
/-- A PIN block's clear digits. -/
def clearD (f : Int) (pin : ByteArray) (fill : List Int) : List Int := f :: (pin.size : Int) :: dgs pin ++ fill
theorem back (f : Int) (hf : f = 0 ∨ f = 3) (pin pan : ByteArray) (fill : List Int) (hp : digOk pin 4 12 = true) (hq : digOk pan 13 19 = true) (hl : fill.length = 14 - pin.size) (hx : ∀ x ∈ fill, 10 ≤ x ∧ x ≤ 15 ∧ (f = 0 → x = 15)) :
    Bytes (pinBlk (clearD f pin fill) pan) ∧ (pinBlk (clearD f pin fill) pan).length = 8 ∧ rpR f (pinBlk (clearD f pin fill) pan) pan = (0, pin) ∧ ∀ g, g ≠ f → rpR g (pinBlk (clearD f pin fill) pan) pan = (1, ⟨#[]⟩) := by
  obtain ⟨p1, p2, p3⟩ := digOk_of hp
  obtain ⟨q1, q2, q3⟩ := digOk_of hq
  have hd := HexOf.dig p1
  have hdl := dgs_length pin
  have hlen : (clearD f pin fill).length = 16 := by unfold clearD; simp only [List.cons_append, List.length_cons, List.length_append]; omega
  have hnib : Nibs (clearD f pin fill) := by
    intro d hd'
    unfold clearD at hd'
    rw [List.cons_append, List.cons_append] at hd'
    rcases List.mem_cons.1 hd' with rfl | h
    · omega
    · rcases List.mem_cons.1 h with rfl | h
      · omega
      · rcases List.mem_append.1 h with h | h
        · exact hd.2 d h
        · have := hx d h; omega
  obtain ⟨e1, e2, e3⟩ := rpD_back _ pan hlen hnib q1 (by omega)
  have n0 : nth (clearD f pin fill) 0 = f := rfl
  have n1 : nth (clearD f pin fill) 1 = (pin.size : Int) := rfl
  have n2 : ∀ i, nth (clearD f pin fill) (2 + i) = nth (dgs pin ++ fill) i := fun i => by rw [Nat.add_comm]; rfl
  refine ⟨e2, e3, ?_, fun g hg => ?_⟩
  · have hok : rcOk f (clearD f pin fill) = true := rcOk_all n0 (by rw [n1]; exact p2) (by rw [n1]; exact p3) fun i hi => by
      rw [n1, n2]
      unfold okAt
      by_cases h : (i : Int) < (pin.size : Int)
      · rw [if_pos h, nth_app_lt _ _ _ (by omega)]
        have hm := nth_mem (dgs pin) i (by omega)
        unfold dgs at hm
        obtain ⟨x, hxm, hxe⟩ := List.mem_map.1 hm
        have hb := allDg_bI p1 x hxm
        refine decide_eq_true ?_
        show nth (dgs pin) i ≤ 9
        unfold dgs
        omega
      · have hm := hx _ (nth_mem fill (i - (dgs pin).length) (by omega))
        rw [if_neg h, nth_app_ge _ _ _ (by omega)]
        by_cases h0 : f = 0
        · rw [if_pos h0]
          exact decide_eq_true (hm.2.2 h0)
        · rw [if_neg h0]
          exact decide_eq_true hm.1
    unfold rpR
    rw [e1, if_pos ⟨hf, hq, e3, hok⟩]
    refine congrArg (Prod.mk 0) ?_
    unfold pinS
    rw [n1]
    have e4 : (clearD f pin fill).drop 2 = dgs pin ++ fill := rfl
    rw [e4, Int.toNat_natCast, List.take_left' hdl]
    exact hd.eq.symm
  · have hno : rcOk g (clearD f pin fill) = false := rcOk_head fun h => hg (h.1.symm.trans n0)
    unfold rpR
    rw [e1, if_neg (fun h => by rw [hno] at h; exact absurd h.2.2.2 (by decide))]
/-- What MakePin makes for the law. -/
theorem made (pin pan : ByteArray) (fill : List Int) (hp : digOk pin 4 12 = true) (hq : digOk pan 13 19 = true) (hl : fill.length = 14 - pin.size) :
    mpR 0 pin pan [] = (0, pinBlk (clearD 0 pin (List.replicate (14 - pin.size) 15)) pan, 0) ∧ mpR 3 pin pan fill = (0, pinBlk (clearD 3 pin (fillL fill (14 - pin.size))) pan, (fill.length : Int)) ∧ mpR 3 pin pan (fill.drop 1) = (2, [], 0) := by
  obtain ⟨p1, p2, p3⟩ := digOk_of hp
  have o0 : mpOk 0 pin pan = true := by unfold mpOk; rw [hp, hq]; rfl
  have o3 : mpOk 3 pin pan = true := by unfold mpOk; rw [hp, hq]; rfl
  refine ⟨?_, ?_, ?_⟩
  · unfold mpR
    rw [if_pos o0, if_pos rfl]
    rfl
  · unfold mpR
    rw [if_pos o3, if_neg (by decide), if_neg (by omega), hl]
    rfl
  · unfold mpR
    rw [if_pos o3, if_neg (by decide), if_pos (by rw [List.length_drop]; omega)]
theorem fillL_ok (dr : List Int) (n : Nat) (hb : Bytes dr) : ∀ x ∈ fillL dr n, 10 ≤ x ∧ x ≤ 15 ∧ ((3 : Int) = 0 → x = 15) := fun x hx => by
  unfold fillL at hx
  obtain ⟨y, hy, rfl⟩ := List.mem_map.1 hx
  have := hb y (List.mem_of_mem_take hy)
  omega
theorem mpR_bytes (f : Int) (pin pan : ByteArray) (dr : List Int) (hb : Bytes dr) : Bytes (mpR f pin pan dr).2.1 := by
  have hy : ∀ v, Bytes (outN v 8) := fun v x hx => by
    unfold outN at hx
    rcases List.mem_append.1 hx with h | h
    · obtain ⟨j, _, rfl⟩ := List.mem_map.1 h
      omega
    · rw [List.eq_of_mem_replicate h]; omega
  have hn : Bytes ([] : List Int) := fun x hx => by cases hx
  unfold mpR
  split
  · split
    · exact xorL_bytes _ _ (hy _) (hy _)
    · split
      · exact hn
      · exact xorL_bytes _ _ (hy _) (hy _)
  · exact hn
/-- The law's plain part. -/
theorem pins_law (pin pan : ByteArray) (fill : List Int) (hp : digOk pin 4 12 = true) (hq : digOk pan 13 19 = true) (hl : fill.length = 14 - pin.size) (hb : Bytes fill) : ∃ ba bb : List Int,
    mpR 0 pin pan [] = (0, ba, 0) ∧ mpR 3 pin pan fill = (0, bb, (fill.length : Int)) ∧ mpR 3 pin pan (fill.drop 1) = (2, [], 0) ∧ Bytes ba ∧ Bytes bb ∧ ba.length = 8 ∧ bb.length = 8 ∧
    rpR 0 ba pan = (0, pin) ∧ rpR 3 bb pan = (0, pin) ∧ rpR 3 ba pan = (1, ⟨#[]⟩) ∧ rpR 0 bb pan = (1, ⟨#[]⟩) := by
  obtain ⟨m1, m2, m3⟩ := made pin pan fill hp hq hl
  obtain ⟨a1, a2, a3, a4⟩ := back 0 (Or.inl rfl) pin pan (List.replicate (14 - pin.size) 15) hp hq (by simp) (fun x hx => by rw [List.eq_of_mem_replicate hx]; decide)
  obtain ⟨b1, b2, b3, b4⟩ := back 3 (Or.inr rfl) pin pan (fillL fill (14 - pin.size)) hp hq (by unfold fillL; simp; omega) (fillL_ok fill _ hb)
  exact ⟨_, _, m1, m2, m3, a1, b1, a2, b2, a3, b3, a4 3 (by decide), b4 0 (by decide)⟩
end Go.Proofs.Ytiejallnkgllnaa
namespace Go.Proofs.Ytiejallnkgllnaa
open Go.RowKit Go.Proofs.YtiejallnkgllnaaW.PrintWords Go.Proofs.YtiejallnkgllnaaW.PrintLast Go.Proofs.YtiejallnkgllnaaW.PrintMore Go.Proofs.Ytiejallnkgllnaa.D
open Go.Proofs.Ytiejallnkgllnaa.LQ
set_option linter.unusedVariables false
theorem u8_E : (Kd.int .u8).E = [] := rfl
/-- The reader stands within its bytes; what was before it reads as it did. -/
def OI (w0 W : World) (g : Nat) (s : List Int) : Prop := (∃ p : Int, (0 ≤ p ∧ p ≤ s.length) ∧ IsS107 w0 W g s p) ∧ Below w0.heap.size w0 W
theorem OI.mk' {w0 W : World} {g : Nat} {s : List Int} {p : Int} (hp : 0 ≤ p ∧ p ≤ s.length) (hi : IsS107 w0 W g s p) (hb : Below w0.heap.size w0 W) : OI w0 W g s := ⟨⟨p, hp, hi⟩, hb⟩
theorem OI.alloc {w0 W : World} {g : Nat} {s : List Int} (h : OI w0 W g s) (o : Obj) : OI w0 (W.alloc o) g s := by
  obtain ⟨⟨p, hp, hi⟩, hb⟩ := h
  exact OI.mk' hp (hi.alloc o) (below_alloc hb o)
theorem OI.drew {w0 W : World} {g : Nat} {s : List Int} (h : OI w0 W g s) : OI w0 W.drew g s := by
  obtain ⟨⟨p, hp, hi⟩, hb⟩ := h
  exact OI.mk' hp hi.drew (below_drew1 hb)
theorem OI.below {w0 W W1 : World} {g : Nat} {s : List Int} (h : OI w0 W g s) (k : Below W.heap.size W W1) : OI w0 W1 g s := by
  obtain ⟨⟨p, hp, hi⟩, hb⟩ := h
  exact OI.mk' hp (hi.below k) (below_step hb k)
theorem OI.far {w0 W : World} {g : Nat} {s : List Int} (h : OI w0 W g s) {b : Nat} {cs : Array Value} {t : TypeId} (hbk : W.heap[b]? = some (.cells cs t (0, 0))) (ht : t ≠ 107) (hw : w0.heap.size ≤ b) (j : Nat) (u : Value) : OI w0 (W.setCell ⟨b, j, none⟩ u) g s := by
  obtain ⟨⟨p, hp, hi⟩, hb⟩ := h
  exact OI.mk' hp (hi.far (hi.ne_blk hbk ht) u) (below_set hb hw)
theorem OI.size {w0 W : World} {g : Nat} {s : List Int} (h : OI w0 W g s) : w0.heap.size ≤ W.heap.size := h.2.size
/-- A block of another type stays through a call that moves the reader. -/
theorem OI.blk {w0 W W1 : World} {g : Nat} {s : List Int} (h : OI w0 W g s) {b : Nat} {cs : Array Value} {t : TypeId} (hbk : W.heap[b]? = some (.cells cs t (0, 0))) (ht : t ≠ 107) (hk : KeepBut W W1 g none) : W1.heap[b]? = some (.cells cs t (0, 0)) := by
  obtain ⟨⟨p, hp, hi⟩, hb⟩ := h
  exact hk.blk hbk (fun e => hi.ne_blk hbk ht e.symm) (by simp)
/-- A row of bytes. -/
def RW (W : World) (A : Option Addr) (n c : Nat) (l : List Int) : Prop := Kd.R (Kd.int .u8) 5 W 0 (fun _ => True) (.slice A n c) l
theorem RW.keep {w0 W W1 : World} {g : Nat} {s : List Int} {A : Option Addr} {n c : Nat} {l : List Int} (h : RW W A n c l) (hI : OI w0 W g s) (hk : KeepBut W W1 g none) : RW W1 A n c l := by
  obtain ⟨⟨p, hp, hi⟩, hb⟩ := hI
  exact Kd.R_mono (Kd.R_keep (hi.apart h (by simp [u8_E])) hk (fun _ q => q.2)) (fun _ _ => trivial)
theorem RW.below {W W1 : World} {A : Option Addr} {n c : Nat} {l : List Int} (h : RW W A n c l) (k : Below W.heap.size W W1) : RW W1 A n c l := Kd.R_below h k
theorem RW.alloc {W : World} {A : Option Addr} {n c : Nat} {l : List Int} (h : RW W A n c l) (o : Obj) : RW (W.alloc o) A n c l := Kd.R_alloc h o
theorem RW.set {W : World} {A : Option Addr} {n c : Nat} {l : List Int} (h : RW W A n c l) {b : Nat} {cs : Array Value} {t : TypeId} (hbk : W.heap[b]? = some (.cells cs t (0, 0))) (ht : 5 ≠ t) (j : Nat) (u : Value) : RW (W.setCell ⟨b, j, none⟩ u) A n c l := Kd.R_set h hbk (by simpa [u8_E] using ht) j u
theorem RW.reads {W : World} {A : Option Addr} {n c : Nat} {l : List Int} (h : RW W A n c l) : n = l.length ∧ n ≤ c ∧ Kd.C (Kd.int .u8) W A l.length l := Kd.R_reads' h
theorem RW.of {W : World} {base : Nat} {v : Value} {l : List Int} {n : Nat} (h : Kd.R (Kd.int .u8) 5 W base (fun _ => True) v l) (hn : l.length = n) : ∃ A c, v = .slice A n c ∧ RW W A n c l := by
  obtain ⟨A, c, rfl⟩ := Kd.R_slice h
  subst hn
  exact ⟨A, c, rfl, Kd.R_lower h (Nat.zero_le _)⟩
def PinE (w0 : World) (g : Nat) (s : List Int) (W : World) (e : Ending) (w' : World) : Prop := ∃ r n, e = .returned (.string r) ∧ DigT r n ∧ 4 ≤ n ∧ n ≤ 12 ∧ OI w0 w' g s ∧ KeepBut W w' g none
def PanE (w0 : World) (g : Nat) (s : List Int) (W : World) (e : Ending) (w' : World) : Prop := ∃ r n, e = .returned (.string r) ∧ DigT r n ∧ 13 ≤ n ∧ n ≤ 19 ∧ OI w0 w' g s ∧ KeepBut W w' g none
def NumE (w0 : World) (g : Nat) (s : List Int) (ok : Int → Prop) (W : World) (e : Ending) (w' : World) : Prop := ∃ c, e = .returned (.int .i64 c) ∧ ok c ∧ OI w0 w' g s ∧ KeepBut W w' g none
def RowE (w0 : World) (g : Nat) (s : List Int) (n : Nat) (W : World) (e : Ending) (w' : World) : Prop := ∃ A c l, e = .returned (.slice A n c) ∧ RW w' A n c l ∧ Bytes l ∧ OI w0 w' g s ∧ KeepBut W w' g none
def KeyE (w0 : World) (g : Nat) (s : List Int) (use : Int) (W : World) (e : Ending) (w' : World) : Prop := ∃ gen A c l, e = .returned (.agg #[.int .i64 use, .int .i64 gen, .slice A 16 c]) ∧ (0 ≤ gen ∧ gen ≤ 255) ∧ RW w' A 16 c l ∧ Bytes l ∧ OI w0 w' g s ∧ KeepBut W w' g none
theorem next_any (w0 W : World) (g : Nat) (s : List Int) (hb : Bytes s) (hl : s.length ≤ 1048576) (h : OI w0 W g s) : Calls Try.prog 70 #[.pointer (some ⟨g, 0, none⟩)] W (NumE w0 g s (fun c => 0 ≤ c ∧ c ≤ 255) W) := by
  obtain ⟨⟨p, hp, hi⟩, hB⟩ := h
  obtain ⟨c, q, h1, h2, h3⟩ := next_some s hb hl p hp
  exact (spec_l1R_next.calls g s p c q w0 W hi hB h1).mono fun e w' ⟨he, hi', hb', hk⟩ => ⟨c, he, h2, OI.mk' h3 hi' hb', hk⟩
theorem format_any (w0 W : World) (g : Nat) (s : List Int) (hb : Bytes s) (hl : s.length ≤ 1048576) (h : OI w0 W g s) : Calls Try.prog 85 #[.pointer (some ⟨g, 0, none⟩)] W (NumE w0 g s (fun c => c = 0 ∨ c = 3) W) := by
  obtain ⟨⟨p, hp, hi⟩, hB⟩ := h
  obtain ⟨c, q, h1, h2, h3⟩ := format_some s hb hl p hp
  exact (spec_l4Format.calls g s p c q w0 W hi hB h1).mono fun e w' ⟨he, hi', hb', hk⟩ => ⟨c, he, h2, OI.mk' h3 hi' hb', hk⟩
theorem pin_any (w0 W : World) (g : Nat) (s : List Int) (hb : Bytes s) (hl : s.length ≤ 1048576) (h : OI w0 W g s) : Calls Try.prog 84 #[.pointer (some ⟨g, 0, none⟩)] W (PinE w0 g s W) := by
  obtain ⟨⟨p, hp, hi⟩, hB⟩ := h
  obtain ⟨r, q, n, h1, h2, h3, h4, h5⟩ := pin_some s hb hl p hp 200 (by omega)
  exact (spec_l4Pin.calls 200 g s p r q w0 W hi hB h1).mono fun e w' ⟨he, hi', hb', hk⟩ => ⟨r, n, he, h2, h3, h4, OI.mk' h5 hi' hb', hk⟩
theorem pan_any (w0 W : World) (g : Nat) (s : List Int) (hb : Bytes s) (hl : s.length ≤ 1048576) (h : OI w0 W g s) : Calls Try.prog 86 #[.pointer (some ⟨g, 0, none⟩)] W (PanE w0 g s W) := by
  obtain ⟨⟨p, hp, hi⟩, hB⟩ := h
  obtain ⟨r, q, n, h1, h2, h3, h4, h5⟩ := pan_some s hb hl p hp 200 (by omega)
  exact (spec_l4Pan.calls 200 g s p r q w0 W hi hB h1).mono fun e w' ⟨he, hi', hb', hk⟩ => ⟨r, n, he, h2, h3, h4, OI.mk' h5 hi' hb', hk⟩
theorem ksn_any (w0 W : World) (g : Nat) (s : List Int) (hb : Bytes s) (hl : s.length ≤ 1048576) (h : OI w0 W g s) : Calls Try.prog 87 #[.pointer (some ⟨g, 0, none⟩)] W (RowE w0 g s 10 W) := by
  obtain ⟨⟨p, hp, hi⟩, hB⟩ := h
  obtain ⟨r, q, h1, h2, h3, h4⟩ := ksn_some s hb hl p hp 200 (by omega)
  refine (spec_l3Ksn.calls 200 g s p r q w0 W hi hB h1).mono fun e w' ⟨v, he, ho, hi', hb', hk⟩ => ?_
  obtain ⟨A, c, rfl, hr⟩ := RW.of ho h2
  exact ⟨A, c, r, he, hr, h3, OI.mk' h4 hi' hb', hk⟩
theorem some_any (w0 W : World) (g : Nat) (s : List Int) (hb : Bytes s) (hl : s.length ≤ 1048576) (h : OI w0 W g s) : Calls Try.prog 93 #[.pointer (some ⟨g, 0, none⟩), .int .i64 10] W (RowE w0 g s 10 W) := by
  obtain ⟨⟨p, hp, hi⟩, hB⟩ := h
  obtain ⟨r, q, h1, h2, h3, h4⟩ := some_some s hb hl p hp 10 (by decide) 200 (by decide)
  refine (spec_l1Some.calls 200 g s p 10 r q w0 W hi hB h1).mono fun e w' ⟨v, he, ho, hi', hb', hk⟩ => ?_
  obtain ⟨A, c, rfl, hr⟩ := RW.of ho (show r.length = 10 from h2)
  exact ⟨A, c, r, he, hr, h3, OI.mk' h4 hi' hb', hk⟩
theorem key_any (w0 W : World) (g : Nat) (s : List Int) (use : Int) (hb : Bytes s) (hl : s.length ≤ 1048576) (h : OI w0 W g s) : Calls Try.prog 88 #[.pointer (some ⟨g, 0, none⟩), .int .i64 use] W (KeyE w0 g s use W) := by
  obtain ⟨⟨p, hp, hi⟩, hB⟩ := h
  obtain ⟨gen, key, q, h1, h2, h3, h4, h5⟩ := key_some s hb hl p hp use 200 (by omega)
  refine (spec_l3Key.calls 200 g s p use use gen key q w0 W hi hB h1).mono fun e w' ⟨v, he, ho, hi', hb', hk⟩ => ?_
  obtain ⟨A, c, rfl, hr⟩ := RW.of ho h3
  exact ⟨gen, A, c, key, he, h2, hr, h4, OI.mk' h5 hi' hb', hk⟩
def MadeE (n : Nat) (W : World) (e : Ending) (w' : World) : Prop := ∃ A c l, e = .returned (.slice A n c) ∧ RW w' A n c l ∧ Bytes l ∧ Below W.heap.size W w'
theorem dukpt_any (W : World) (A B : Option Addr) (c d : Nat) (key ksn : List Int) (hk : RW W A 16 c key) (hn : RW W B 10 d ksn) (hkb : Bytes key) (hnb : Bytes ksn) : Calls Try.prog 90 #[.slice A 16 c, .slice B 10 d] W (MadeE 16 W) := by
  obtain ⟨k1, k2, k3⟩ := hk.reads
  obtain ⟨n1, n2, n3⟩ := hn.reads
  obtain ⟨y, hy, h1⟩ := dukpt_some key ksn ⟨k1.symm, hkb⟩ n1.symm hnb 200 (by omega)
  have := spec_DukptKey.calls 200 A c key B d ksn y W k3 (by omega) n3 (by omega) h1
  rw [← k1, ← n1] at this
  refine this.mono fun e w' ⟨v, he, ho, hb⟩ => ?_
  obtain ⟨A', c', rfl, hr⟩ := RW.of ho hy.1
  exact ⟨A', c', y, he, hr, hy.2, hb⟩
theorem variant_any (W : World) (A : Option Addr) (c : Nat) (key : List Int) (hk : RW W A 16 c key) (hkb : Bytes key) : Calls Try.prog 89 #[.slice A 16 c, .int .i64 1] W (MadeE 16 W) := by
  obtain ⟨k1, k2, k3⟩ := hk.reads
  obtain ⟨y, hy, h1⟩ := variant_some key ⟨k1.symm, hkb⟩ 200 (by omega)
  have := spec_Variant.calls 200 A c key 1 y W k3 (by omega) h1
  rw [← k1] at this
  refine this.mono fun e w' ⟨v, he, ho, hb⟩ => ?_
  obtain ⟨A', c', rfl, hr⟩ := RW.of ho hy.1
  exact ⟨A', c', y, he, hr, hy.2, hb⟩
def AnyE (W : World) (e : Ending) (w' : World) : Prop := ∃ A n c, e = .returned (.slice A n c) ∧ Below W.heap.size W w'
theorem wrap_any (W : World) (A B : Option Addr) (c d : Nat) (use gen : Int) (key : List Int) (hm : Kd.C (Kd.int .u8) W A 16 masterL) (hc : 16 ≤ c) (hk : RW W B 16 d key) (hkb : Bytes key) (hu : 1 ≤ use ∧ use ≤ 3) (hg : 0 ≤ gen ∧ gen ≤ 255) :
    Calls Try.prog 91 #[.slice A 16 c, .agg #[.int .i64 use, .int .i64 gen, .slice B 16 d]] W (AnyE W) := by
  obtain ⟨k1, k2, k3⟩ := hk.reads
  exact (spec_Wrap.any A c masterL use gen B d key W hm hc (by rw [← k1] at k3; exact k3) k2 hu hg (by unfold Bytes masterL; decide) hkb).mono fun e w' h => h
theorem digOk_dig {s : ByteArray} {n : Nat} (h : DigT s n) (lo hi : Int) (h1 : lo ≤ n) (h2 : (n : Int) ≤ hi) : digOk s lo hi = true := by
  have ha : allDg s = true := allDg_of fun i hi => by
    have hx := h.2 _ (nth_mem (bI s) i (by rw [bI_length]; exact hi))
    rw [← bI_at s i hi] at hx
    omega
  unfold digOk
  rw [ha, h.1]
  simp only [Bool.true_and, Bool.and_eq_true, decide_eq_true_eq]
  exact ⟨h1, h2⟩
theorem make_any (W : World) (f : Int) (pin pan : ByteArray) (A : Option Addr) (c : Nat) (dr : List Int) {n m : Nat} (hr : RW W A 10 c dr) (hb : Bytes dr) (hp : DigT pin n ∧ 4 ≤ n ∧ n ≤ 12) (hq : DigT pan m ∧ 13 ≤ m ∧ m ≤ 19) :
    Calls Try.prog 19 #[.int .i64 f, .string pin, .string pan, .slice A 10 c] W fun e w' => ∃ (q1 q3 : Int) (B : Option Addr) (n d : Nat) (l : List Int), e = .returned (.agg #[.int .i64 q1, .slice B n d, .int .i64 q3]) ∧ RW w' B n d l ∧ Bytes l ∧ Below W.heap.size W w' := by
  obtain ⟨r1, r2, r3⟩ := hr.reads
  have := spec_MakePin.calls f pin pan A c dr (mpR f pin pan dr).1 (mpR f pin pan dr).2.1 (mpR f pin pan dr).2.2 W r3 (by omega) (by unfold spec_MakePin.f; rw [if_pos ⟨by have := hp.1.1; omega, by have := hq.1.1; omega, bytesB_mk hb⟩])
  rw [← r1] at this
  refine this.mono fun e w' ⟨v, he, ho, hB⟩ => ?_
  obtain ⟨B, d, rfl, hR⟩ := RW.of ho rfl
  exact ⟨_, _, B, _, d, _, he, hR, mpR_bytes _ _ _ _ hb, hB⟩
/-- The key under which the order's block lies. -/
def RowAt (W : World) (A : Option Addr) (c : Nat) : Prop := ∃ k, RW W A 16 c k ∧ Bytes k
theorem tdea_call (W : World) (A B : Option Addr) (c n d : Nat) (l : List Int) (hk : RowAt W A c) (hr : RW W B n d l) (hb : Bytes l) : Calls Try.prog 92 #[.slice A 16 c, .slice B n d, .bool false] W (AnyE W) := by
  obtain ⟨k, hk, hkb⟩ := hk
  obtain ⟨k1, k2, k3⟩ := hk.reads
  obtain ⟨r1, r2, r3⟩ := hr.reads
  obtain ⟨y, _, _, h1⟩ := tdea_any k l hkb hb false 200 (by omega)
  have := spec_Tdea.calls 200 A c k B d l false y W k3 (by omega) r3 (by omega) h1
  rw [← k1, ← r1] at this
  refine this.mono fun e w' ⟨v, he, ho, hB⟩ => ?_
  obtain ⟨A', c', rfl⟩ := Kd.R_slice ho
  exact ⟨A', _, c', he, hB⟩
end Go.Proofs.Ytiejallnkgllnaa
