/- The law FnPins: its row. No condition. -/
import Derived.Test.YtiejallnkgllnaaKPins5
import Derived.Deep.RegionWith
import Derived.Deep.MidRow
import Derived.SizedLaws
import Derived.ChangeSlices
import Derived.Test.YtiejallnkgllnaaRows
import Derived.WalkKit
import Derived.ProofKit
import Derived.OpenShut
import Derived.ShutString
import Derived.ChangeOld
import Derived.Below
namespace Go.Proofs.Ytiejallnkgllnaa
open Go.RowKit Go.Proofs.YtiejallnkgllnaaW.PrintWords Go.Proofs.YtiejallnkgllnaaW.PrintLast Go.Proofs.YtiejallnkgllnaaW.PrintMore Go.Proofs.Ytiejallnkgllnaa.D
open Go.Proofs.Ytiejallnkgllnaa.LQ
set_option linter.unusedVariables false
set_option linter.unusedSimpArgs false
def OrdE (w0 : World) (e : Ending) (w' : World) : Prop := ∃ (A0 A2 A3 A5 A7 : Option Addr) (n0 n2 n3 n5 n7 c0 c2 c3 c5 c7 : Nat) (f1 f4 : Int) (pan pin : ByteArray) (n m : Nat),
  e = .returned (.tuple #[.agg #[.slice A0 n0 c0, .int .i64 f1, .slice A2 n2 c2, .slice A3 n3 c3, .int .i64 f4, .slice A5 n5 c5, .string pan, .slice A7 n7 c7], .string pin]) ∧
  DigT pan n ∧ 13 ≤ n ∧ n ≤ 19 ∧ DigT pin m ∧ 4 ≤ m ∧ m ≤ 12 ∧ Below w0.heap.size w0 w'
theorem infoOrd : (Try.prog.info? 57).map (·.size) = some 8 := by kernel_rfl
def spec_l5Order.T13 : Bool × List (List Nat × List Nat) := (true, [([], []), ([], []), ([0, 1, 0], [0, 1]), ([0, 1, 2], []), ([3, 2, 2, 0, 1, 2], [2, 3])])
def spec_l5Order.B13 : List Nat := [0, 0, 3, 7, 15]
theorem spec_l5Order.tab13 : rtab .any (opsOf Try.f66 13) = spec_l5Order.T13 := by kernel_rfl
theorem spec_l5Order.tab14 : rtab .any (opsOf Try.f66 14) = spec_l5Order.T13 := by kernel_rfl
theorem spec_l5Order.bits13 : waitsOk spec_l5Order.T13.2 spec_l5Order.B13 = true := by kernel_rfl
theorem spec_l5Order.bits14 : waitsOk spec_l5Order.T13.2 spec_l5Order.B13 = true := by kernel_rfl
def spec_l5Order.T15 : Bool × List (List Nat × List Nat) := (true, [([], []), ([], []), ([1], [1]), ([], []), ([], []), ([4], [4]), ([], []), ([6], [6]), ([2, 3, 5, 7, 7], [2, 3, 5, 7]), ([8], [8]), ([0, 9, 8], [0, 9]), ([0, 1, 2, 3, 4, 5, 6, 7, 8, 9, 10], []), ([11, 10, 10, 0, 1, 2, 3, 4, 5, 6, 7, 8, 9, 10], [10, 11])])
def spec_l5Order.B15 : List Nat := [0, 0, 2, 0, 0, 16, 0, 64, 254, 510, 1023, 2047, 4095]
theorem spec_l5Order.tab15 : rtab .any (opsOf Try.f66 15) = spec_l5Order.T15 := by kernel_rfl
theorem spec_l5Order.bits15 : waitsOk spec_l5Order.T15.2 spec_l5Order.B15 = true := by kernel_rfl
theorem skip_ {P : Program} {Q : Exit → Act → World → Prop} {oi : Oper} {a : Act} {w w1 : World} {K : Act → World → Prop} {c : Bool} (hw : c = true) (hN : oi.dst = none) (hrun : (execOp a.eval oi).run P w = .ok .skip w1) (h : K a w1) : if c = true then Oper.wp P oi a w K Q else K (a.put none undef) w := by
  rw [if_pos hw]
  unfold Oper.wp
  rw [hrun]
  show K (a.put oi.dst undef) w1
  rw [hN]
  exact h
theorem results_cell_slot {P : Program} {fn : Func} {p q : Tmp} {ty : TypeId} (h : fn.results = #[.cell p ty, .tmp q]) (tmps : Array Value) (w : World) (g : Nat) (t : TypeId) (cs : Array Value) (fr : Nat × Nat) (d : TypeDesc) (u : Value)
    (hp : tmps.getD p undef = .pointer (some ⟨g, 0, none⟩)) (hq : tmps.getD q undef = u) (hg : w.heap[g]? = some (.cells cs t fr))
    (hu : P.underlying ty = some d) (hd : (match d with | .struct _ | .array _ _ => true | _ => false) = true) (hi : (P.info? ty).map (·.size) = some cs.size) :
    (results fn tmps).run P w = .ok (.tuple #[.agg cs, u]) w := by
  have hp' : tmps[p]?.getD undef = .pointer (some ⟨g, 0, none⟩) := by simpa using hp
  have hq' : tmps[q]?.getD undef = u := by simpa using hq
  simp [results, h, hp', hq', asAddr, run_loadVar_row w g t ty cs fr d hg hu hd hi]
def IsSl (v : Value) : Prop := ∃ A n c, v = .slice A n c
def nilS : Value := .slice none 0 0
/-- The order under way: its block, the result's block, the reader. -/
def OSt (w0 W : World) (g : Nat) (s : List Int) (b2 b6 : Nat) (f1 f4 : Int) (pan : ByteArray) (v0 v2 v3 v5 v7 : Value) : Prop :=
  OI w0 W g s ∧ (w0.heap.size ≤ b2 ∧ w0.heap.size ≤ b6 ∧ b2 ≠ b6) ∧
  W.heap[b2]? = some (.cells #[.slice none 0 0, .int .i64 0, .slice none 0 0, .slice none 0 0, .int .i64 0, .slice none 0 0, .string ⟨#[]⟩, .slice none 0 0] 57 (0, 0)) ∧
  W.heap[b6]? = some (.cells #[v0, .int .i64 f1, v2, v3, .int .i64 f4, v5, .string pan, v7] 57 (0, 0))
section
variable {w0 W W1 : World} {g : Nat} {s : List Int} {b2 b6 : Nat} {f1 f4 : Int} {pan : ByteArray} {v0 v2 v3 v5 v7 : Value}
theorem OSt.keep (h : OSt w0 W g s b2 b6 f1 f4 pan v0 v2 v3 v5 v7) (hi : OI w0 W1 g s) (hk : KeepBut W W1 g none) : OSt w0 W1 g s b2 b6 f1 f4 pan v0 v2 v3 v5 v7 :=
  ⟨hi, h.2.1, h.1.blk h.2.2.1 (by decide) hk, h.1.blk h.2.2.2 (by decide) hk⟩
theorem OSt.below (h : OSt w0 W g s b2 b6 f1 f4 pan v0 v2 v3 v5 v7) (k : Below W.heap.size W W1) : OSt w0 W1 g s b2 b6 f1 f4 pan v0 v2 v3 v5 v7 :=
  ⟨h.1.below k, h.2.1, blk_below h.2.2.1 k, blk_below h.2.2.2 k⟩
theorem OSt.alloc (h : OSt w0 W g s b2 b6 f1 f4 pan v0 v2 v3 v5 v7) (o : Obj) : OSt w0 (W.alloc o) g s b2 b6 f1 f4 pan v0 v2 v3 v5 v7 := h.below ((Below.refl _ _).alloc (Nat.le_refl _) o)
theorem OSt.drew (h : OSt w0 W g s b2 b6 f1 f4 pan v0 v2 v3 v5 v7) : OSt w0 W.drew g s b2 b6 f1 f4 pan v0 v2 v3 v5 v7 := ⟨h.1.drew, h.2.1, h.2.2.1, h.2.2.2⟩
theorem OSt.cell (h : OSt w0 W g s b2 b6 f1 f4 pan v0 v2 v3 v5 v7) (i : Nat) : W.cell? ⟨b6, i, none⟩ = (#[v0, .int .i64 f1, v2, v3, .int .i64 f4, v5, .string pan, v7] : Array Value)[i]? := blk_cell h.2.2.2 i
theorem OSt.frozen (h : OSt w0 W g s b2 b6 f1 f4 pan v0 v2 v3 v5 v7) (i : Nat) : W.frozen? ⟨b6, i, none⟩ = false := blk_frozen h.2.2.2 i
theorem OSt.set_ (h : OSt w0 W g s b2 b6 f1 f4 pan v0 v2 v3 v5 v7) (i : Nat) (u : Value) : OI w0 (W.setCell ⟨b6, i, none⟩ u) g s ∧ (W.setCell ⟨b6, i, none⟩ u).heap[b2]? = some (.cells #[.slice none 0 0, .int .i64 0, .slice none 0 0, .slice none 0 0, .int .i64 0, .slice none 0 0, .string ⟨#[]⟩, .slice none 0 0] 57 (0, 0)) :=
  ⟨h.1.far h.2.2.2 (by decide) h.2.1.2.1 i u, blk_far h.2.2.1 h.2.1.2.2 u⟩
theorem OSt.set0 (h : OSt w0 W g s b2 b6 f1 f4 pan v0 v2 v3 v5 v7) (u : Value) : OSt w0 (W.setCell ⟨b6, 0, none⟩ u) g s b2 b6 f1 f4 pan u v2 v3 v5 v7 := ⟨(h.set_ 0 u).1, h.2.1, (h.set_ 0 u).2, blk_put h.2.2.2 0 u rfl⟩
theorem OSt.set2 (h : OSt w0 W g s b2 b6 f1 f4 pan v0 v2 v3 v5 v7) (u : Value) : OSt w0 (W.setCell ⟨b6, 2, none⟩ u) g s b2 b6 f1 f4 pan v0 u v3 v5 v7 := ⟨(h.set_ 2 u).1, h.2.1, (h.set_ 2 u).2, blk_put h.2.2.2 2 u rfl⟩
theorem OSt.set3 (h : OSt w0 W g s b2 b6 f1 f4 pan v0 v2 v3 v5 v7) (u : Value) : OSt w0 (W.setCell ⟨b6, 3, none⟩ u) g s b2 b6 f1 f4 pan v0 v2 u v5 v7 := ⟨(h.set_ 3 u).1, h.2.1, (h.set_ 3 u).2, blk_put h.2.2.2 3 u rfl⟩
theorem OSt.set5 (h : OSt w0 W g s b2 b6 f1 f4 pan v0 v2 v3 v5 v7) (u : Value) : OSt w0 (W.setCell ⟨b6, 5, none⟩ u) g s b2 b6 f1 f4 pan v0 v2 v3 u v7 := ⟨(h.set_ 5 u).1, h.2.1, (h.set_ 5 u).2, blk_put h.2.2.2 5 u rfl⟩
theorem OSt.set7 (h : OSt w0 W g s b2 b6 f1 f4 pan v0 v2 v3 v5 v7) (u : Value) : OSt w0 (W.setCell ⟨b6, 7, none⟩ u) g s b2 b6 f1 f4 pan v0 v2 v3 v5 u := ⟨(h.set_ 7 u).1, h.2.1, (h.set_ 7 u).2, blk_put h.2.2.2 7 u rfl⟩
end
/-- A serial number is laid where one is wanted. -/
def KsnIn (W : World) (use : Int) (v2 : Value) : Prop := (use = 1 ∧ IsSl v2) ∨ (use = 3 ∧ ∃ A c l, v2 = .slice A 10 c ∧ RW W A 10 c l ∧ Bytes l)
theorem KsnIn.sl {W : World} {use : Int} {v2 : Value} (h : KsnIn W use v2) : IsSl v2 := by
  rcases h with h | ⟨h, A, c, l, e, hr, hb⟩
  · exact h.2
  · exact ⟨A, 10, c, e⟩
/-- A key and what is told of it, in its block. -/
def KeyAt (W : World) (b : Nat) : Prop := ∃ (use gen : Int) (A : Option Addr) (c : Nat) (k : List Int), (1 ≤ use ∧ use ≤ 3) ∧ (0 ≤ gen ∧ gen ≤ 255) ∧ RW W A 16 c k ∧ Bytes k ∧ W.heap[b]? = some (.cells #[.int .i64 use, .int .i64 gen, .slice A 16 c] 143 (0, 0))
theorem KeyAt.below {W W1 : World} {b : Nat} (h : KeyAt W b) (k : Below W.heap.size W W1) : KeyAt W1 b := by
  obtain ⟨use, gen, A, c, l, h1, h2, h3, h4, h5⟩ := h
  exact ⟨use, gen, A, c, l, h1, h2, h3.below k, h4, blk_below h5 k⟩
theorem KeyAt.set {W : World} {b b6 : Nat} {cs : Array Value} (h : KeyAt W b) (hb : W.heap[b6]? = some (.cells cs 57 (0, 0))) (j : Nat) (u : Value) : KeyAt (W.setCell ⟨b6, j, none⟩ u) b := by
  obtain ⟨use, gen, A, c, l, h1, h2, h3, h4, h5⟩ := h
  exact ⟨use, gen, A, c, l, h1, h2, h3.set hb (by decide) j u, h4, blk_far h5 (blk_ne h5 hb (by decide)) u⟩
theorem RowAt.below {W W1 : World} {A : Option Addr} {c : Nat} (h : RowAt W A c) (k : Below W.heap.size W W1) : RowAt W1 A c := by
  obtain ⟨l, h1, h2⟩ := h
  exact ⟨l, h1.below k, h2⟩
theorem RowAt.set {W : World} {b6 : Nat} {cs : Array Value} {A : Option Addr} {c : Nat} (h : RowAt W A c) (hb : W.heap[b6]? = some (.cells cs 57 (0, 0))) (j : Nat) (u : Value) : RowAt (W.setCell ⟨b6, j, none⟩ u) A c := by
  obtain ⟨l, h1, h2⟩ := h
  exact ⟨l, h1.set hb (by decide) j u, h2⟩
theorem RowAt.keep {w0 W W1 : World} {g : Nat} {s : List Int} {A : Option Addr} {c : Nat} (h : RowAt W A c) (hI : OI w0 W g s) (hk : KeepBut W W1 g none) : RowAt W1 A c := by
  obtain ⟨l, h1, h2⟩ := h
  exact ⟨l, h1.keep hI hk, h2⟩
theorem KsnIn.keep {w0 W W1 : World} {g : Nat} {s : List Int} {use : Int} {v2 : Value} (h : KsnIn W use v2) (hI : OI w0 W g s) (hk : KeepBut W W1 g none) : KsnIn W1 use v2 := by
  rcases h with h | ⟨h, A, c, l, e, hr, hb⟩
  · exact Or.inl h
  · exact Or.inr ⟨h, A, c, l, e, hr.keep hI hk, hb⟩
theorem KsnIn.below {W W1 : World} {use : Int} {v2 : Value} (h : KsnIn W use v2) (k : Below W.heap.size W W1) : KsnIn W1 use v2 := by
  rcases h with h | ⟨h, A, c, l, e, hr, hb⟩
  · exact Or.inl h
  · exact Or.inr ⟨h, A, c, l, e, hr.below k, hb⟩
theorem KsnIn.alloc {W : World} {use : Int} {v2 : Value} (h : KsnIn W use v2) (o : Obj) : KsnIn (W.alloc o) use v2 := h.below ((Below.refl _ _).alloc (Nat.le_refl _) o)
set_option maxHeartbeats 4000000 in
set_option maxRecDepth 100000 in
theorem spec_l5Order.any (w0 w : World) (g : Nat) (s : List Int) (hb : Bytes s) (hl : s.length ≤ 1048576) (h : OI w0 w g s) :
    Calls Try.prog 66 #[.pointer (some ⟨g, 0, none⟩)] w (OrdE w0) := by
  have HI := Aside0.mk h
  have HS := Aside0.mk (And.intro hb hl)
  clear h hb hl
  go_enter Try.func66, Try.ntmps66
  go_wp2_with fail
  refine (next_any w0 _ g s HS.out.1 HS.out.2 (HI.out.alloc _)).mono ?_
  rintro e w1 ⟨c, rfl, hc, hi, hk⟩
  have BK2 := Aside0.mk ((HI.out.alloc _).blk (blk_new w (.cells #[.slice none 0 0, .int .i64 0, .slice none 0 0, .slice none 0 0, .int .i64 0, .slice none 0 0, .string ⟨#[]⟩, .slice none 0 0] 57)) (by decide) hk)
  obtain ⟨b2, hb2⟩ : ∃ b2, b2 = w.heap.size := ⟨_, rfl⟩
  rw [← hb2] at BK2 ⊢
  have HB2 : Aside0 (w0.heap.size ≤ b2) := ⟨by rw [hb2]; exact HI.out.size⟩
  have HC := Aside0.mk hc
  replace HI := Aside0.mk hi
  clear hb2 hc hi hk
  clear w
  go_wp2_with fail
  refine (pin_any w0 _ g s HS.out.1 HS.out.2 HI.out).mono ?_
  rintro e w2 ⟨pin, pn, rfl, hpd, hp4, hp12, hi, hk⟩
  replace BK2 := Aside0.mk (HI.out.blk BK2.out (by decide) hk)
  have HP := Aside0.mk (And.intro hpd (And.intro hp4 hp12))
  replace HI := Aside0.mk hi
  clear hpd hp4 hp12 hi hk
  go_wp2_with fail
  refine (format_any w0 _ g s HS.out.1 HS.out.2 HI.out).mono ?_
  rintro e w3 ⟨f1, rfl, -, hi, hk⟩
  replace BK2 := Aside0.mk (HI.out.blk BK2.out (by decide) hk)
  replace HI := Aside0.mk hi
  clear hi hk
  go_wp2_with fail
  refine (format_any w0 _ g s HS.out.1 HS.out.2 HI.out).mono ?_
  rintro e w4 ⟨f4, rfl, -, hi, hk⟩
  replace BK2 := Aside0.mk (HI.out.blk BK2.out (by decide) hk)
  replace HI := Aside0.mk hi
  clear hi hk
  go_wp2_with fail
  refine (pan_any w0 _ g s HS.out.1 HS.out.2 HI.out).mono ?_
  rintro e w5 ⟨pan, qn, rfl, hqd, hq4, hq12, hi, hk⟩
  replace BK2 := Aside0.mk (HI.out.blk BK2.out (by decide) hk)
  have HQ := Aside0.mk (And.intro hqd (And.intro hq4 hq12))
  replace HI := Aside0.mk hi
  clear hqd hq4 hq12 hi hk
  go_upto_if 24 with (fail)
  have OS : Aside0 (OSt w0 (w5.alloc (.cells #[.slice none 0 0, .int .i64 f1, .slice none 0 0, .slice none 0 0, .int .i64 f4, .slice none 0 0, .string pan, .slice none 0 0] 57)) g s b2 w5.heap.size f1 f4 pan nilS nilS nilS nilS nilS) := ⟨HI.out.alloc _, ⟨HB2.out, HI.out.size, Nat.ne_of_lt (blk_lt BK2.out)⟩, blk_alloc BK2.out _, blk_new _ _⟩
  obtain ⟨b6, hb6⟩ : ∃ b6, b6 = w5.heap.size := ⟨_, rfl⟩
  rw [← hb6] at OS ⊢
  clear hb6 HI BK2 HB2
  generalize w5.alloc (.cells #[.slice none 0 0, .int .i64 f1, .slice none 0 0, .slice none 0 0, .int .i64 f4, .slice none 0 0, .string pan, .slice none 0 0] 57) = w6 at OS ⊢
  clear w5
  go_cut [7] from 22 (fun s7 wc => ∃ (use : Int) (v2 : Value), s7 = .int .i64 use ∧ Aside0 (OSt w0 wc g s b2 b6 f1 f4 pan nilS v2 nilS nilS nilS) ∧ Aside0 (KsnIn wc use v2))
  case first =>
    cases hcc : (c.tmod 2 == 1) with
    | true =>
      have hc2 := OS.out.cell 2
      have hf2 := OS.out.frozen 2
      go_wp2_with fail
      refine (ksn_any w0 _ g s HS.out.1 HS.out.2 OS.out.1).mono ?_
      rintro e w7 ⟨A2, c2, ksn, rfl, hr, hkb, hi, hk⟩
      replace OS := Aside0.mk (OS.out.keep hi hk)
      have KR := Aside0.mk (And.intro (hr.set OS.out.2.2.2 (by decide) 2 (.slice A2 10 c2)) hkb)
      clear hc2 hf2 hr hkb hi hk
      have hc2 : w7.cell? ⟨b6, 2, none⟩ = some nilS := OS.out.cell 2
      have hf2 := OS.out.frozen 2
      go_wp2_with fail
      go_meet
      exact ⟨_, _, rfl, ⟨OS.out.set2 _⟩, ⟨Or.inr ⟨rfl, A2, c2, ksn, rfl, KR.out.1, KR.out.2⟩⟩⟩
    | false =>
      go_wp2_with fail
      go_meet
      exact ⟨_, _, rfl, OS, ⟨Or.inl ⟨rfl, _, _, _, rfl⟩⟩⟩
  case rest =>
    obtain ⟨use, v2, rfl, OS, KI⟩ := hcut
    have HU : Aside0 (1 ≤ use ∧ use ≤ 3) := ⟨by rcases KI.out with ⟨h, _⟩ | ⟨h, _⟩ <;> omega⟩
    go_wp2_with fail
    refine (key_any w0 _ g s use HS.out.1 HS.out.2 OS.out.1).mono ?_
    rintro e w7 ⟨gen, A8, c8, k8, rfl, hgen, hr, hkb, hi, hk⟩
    replace KI := Aside0.mk (KI.out.keep OS.out.1 hk)
    replace OS := Aside0.mk (OS.out.keep hi hk)
    have K8 := Aside0.mk (And.intro hgen (And.intro hr hkb))
    clear hgen hr hkb hi hk
    go_wp2_with fail
    have BK8 := Aside0.mk (blk_new w7 (.cells #[.int .i64 use, .int .i64 gen, .slice A8 16 c8] 143))
    replace OS := Aside0.mk (OS.out.alloc (.cells #[.int .i64 use, .int .i64 gen, .slice A8 16 c8] 143))
    replace KI := Aside0.mk (KI.out.alloc (.cells #[.int .i64 use, .int .i64 gen, .slice A8 16 c8] 143))
    replace K8 := Aside0.mk (And.intro K8.out.1 (And.intro (K8.out.2.1.alloc (.cells #[.int .i64 use, .int .i64 gen, .slice A8 16 c8] 143)) K8.out.2.2))
    obtain ⟨b8, hb8⟩ : ∃ b8, b8 = w7.heap.size := ⟨_, rfl⟩
    rw [← hb8] at BK8 ⊢
    clear hb8
    generalize w7.alloc (.cells #[.int .i64 use, .int .i64 gen, .slice A8 16 c8] 143) = w8 at OS KI K8 BK8 ⊢
    clear w7
    refine (key_any w0 _ g s 1 HS.out.1 HS.out.2 OS.out.1).mono ?_
    rintro e w9 ⟨gen9, A9, c9, k9, rfl, hgen, hr, hkb, hi, hk⟩
    replace BK8 := Aside0.mk (OS.out.1.blk BK8.out (by decide) hk)
    replace KI := Aside0.mk (KI.out.keep OS.out.1 hk)
    replace K8 := Aside0.mk (And.intro K8.out.1 (And.intro (K8.out.2.1.keep OS.out.1 hk) K8.out.2.2))
    replace OS := Aside0.mk (OS.out.keep hi hk)
    have K9 := Aside0.mk (And.intro hgen (And.intro hr hkb))
    clear hgen hr hkb hi hk
    have BK9 := Aside0.mk (blk_new w9 (.cells #[.int .i64 1, .int .i64 gen9, .slice A9 16 c9] 143))
    have BA : Aside0 (Below w9.heap.size w9 (w9.alloc (.cells #[.int .i64 1, .int .i64 gen9, .slice A9 16 c9] 143))) := ⟨(Below.refl _ _).alloc (Nat.le_refl _) _⟩
    have NE : Aside0 (w9.heap.size ≠ b8 ∧ w9.heap.size ≠ b6) := ⟨fun h => by have := blk_lt BK8.out; omega, fun h => by have := blk_lt OS.out.2.2.2; omega⟩
    replace BK8 := Aside0.mk (blk_below BK8.out BA.out)
    replace OS := Aside0.mk (OS.out.below BA.out)
    replace KI := Aside0.mk (KI.out.below BA.out)
    replace K8 := Aside0.mk (And.intro K8.out.1 (And.intro (K8.out.2.1.below BA.out) K8.out.2.2))
    replace K9 := Aside0.mk (And.intro K9.out.1 (And.intro (K9.out.2.1.below BA.out) K9.out.2.2))
    clear BA
    have hc82 : (w9.alloc (.cells #[.int .i64 1, .int .i64 gen9, .slice A9 16 c9] 143)).cell? ⟨b8, 2, none⟩ = some (.slice A8 16 c8) := blk_cell BK8.out 2
    go_upto_if 36 with (fail)
    obtain ⟨b9, hb9⟩ : ∃ b9, b9 = w9.heap.size := ⟨_, rfl⟩
    rw [← hb9] at BK9 NE ⊢
    clear hb9 hc82
    have KA8 : Aside0 (KeyAt (w9.alloc (.cells #[.int .i64 1, .int .i64 gen9, .slice A9 16 c9] 143)) b8) := ⟨⟨use, gen, A8, c8, k8, HU.out, K8.out.1, K8.out.2.1, K8.out.2.2, BK8.out⟩⟩
    have KA9 : Aside0 (KeyAt (w9.alloc (.cells #[.int .i64 1, .int .i64 gen9, .slice A9 16 c9] 143)) b9) := ⟨⟨1, gen9, A9, c9, k9, by decide, K9.out.1, K9.out.2.1, K9.out.2.2, BK9.out⟩⟩
    have KR := Aside0.mk K8.out.2
    clear K8 K9 BK8 BK9 HU
    generalize w9.alloc (.cells #[.int .i64 1, .int .i64 gen9, .slice A9 16 c9] 143) = w10 at OS KI KR KA8 KA9 ⊢
    clear w9
    go_cut [10] from 22 (fun s10 wc => ∃ (A : Option Addr) (c : Nat), s10 = .slice A 16 c ∧ Aside0 (OSt w0 wc g s b2 b6 f1 f4 pan nilS v2 nilS nilS nilS) ∧ Aside0 (RowAt wc A c) ∧ Aside0 (KeyAt wc b8) ∧ Aside0 (KeyAt wc b9))
    case first =>
      rcases KI.out with ⟨rfl, _⟩ | ⟨rfl, A2, c2, ksn, rfl, hr, hb⟩
      · go_wp2_with fail
        go_meet
        exact ⟨_, _, rfl, OS, ⟨⟨_, KR.out⟩⟩, KA8, KA9⟩
      · have R2 := Aside0.mk (And.intro hr hb)
        clear hr hb KI
        have hc2 : w10.cell? ⟨b6, 2, none⟩ = some (.slice A2 10 c2) := OS.out.cell 2
        go_wp2_with fail
        refine (dukpt_any _ _ _ _ _ _ _ KR.out.1 R2.out.1 KR.out.2 R2.out.2).mono ?_
        rintro e w11 ⟨A, c', y, rfl, hr, hb, hw⟩
        replace OS := Aside0.mk (OS.out.below hw)
        replace KA8 := Aside0.mk (KA8.out.below hw)
        replace KA9 := Aside0.mk (KA9.out.below hw)
        have R3 := Aside0.mk (And.intro hr hb)
        clear hr hb hw hc2 R2 KR
        go_wp2_with fail
        refine (variant_any _ _ _ _ R3.out.1 R3.out.2).mono ?_
        rintro e w12 ⟨A', c'', y', rfl, hr, hb, hw⟩
        replace OS := Aside0.mk (OS.out.below hw)
        replace KA8 := Aside0.mk (KA8.out.below hw)
        replace KA9 := Aside0.mk (KA9.out.below hw)
        have R4 := Aside0.mk (And.intro hr hb)
        clear hr hb hw R3
        go_wp2_with fail
        go_meet
        exact ⟨_, _, rfl, OS, ⟨⟨_, R4.out⟩⟩, KA8, KA9⟩
    case rest =>
      obtain ⟨A10, c10, rfl, OS, KR, KA8, KA9⟩ := hcut
      have V2 := Aside0.mk KI.out.sl
      clear KI
      go_upto_region 13 with (fail)
      go_cut [10] from 22 (fun s10 wx => ∃ v0 : Value, s10 = .slice A10 16 c10 ∧ Aside0 (IsSl v0) ∧ Aside0 (OSt w0 wx g s b2 b6 f1 f4 pan v0 v2 nilS nilS nilS) ∧ Aside0 (RowAt wx A10 c10) ∧ Aside0 (KeyAt wx b9))
      case first =>
        obtain ⟨u_, g_, A_, c_, k_, hu_, hg_, hr_, hb_, hblk_⟩ := KA8.out
        have KS := Aside0.mk (And.intro hu_ (And.intro hg_ hb_))
        have BK := Aside0.mk hblk_
        have RK := Aside0.mk hr_
        clear hu_ hg_ hr_ hb_ hblk_ KA8
        refine start_ (n := 5) (S := fun w' => w'.heap[b8]? = some (.cells #[.int .i64 u_, .int .i64 g_, .slice A_ 16 c_] 143 (0, 0))) (ds := []) #[false, false, false, false, false] (by kernel_rfl) rfl rfl (BK.out) (fun hHeld => ?_); refine with_tabW spec_l5Order.tab13 spec_l5Order.bits13 (fun HT_ HW_ => ?_)
        have BD : Aside0 (Below wc.heap.size wc wc.drew) := ⟨below_drew (Below.refl _ _)⟩
        replace OS := Aside0.mk (OS.out.below BD.out)
        replace KR := Aside0.mk (KR.out.below BD.out)
        replace RK := Aside0.mk (RK.out.below BD.out)
        replace BK := Aside0.mk (blk_below BK.out BD.out)
        replace KA9 := Aside0.mk (KA9.out.below BD.out)
        clear BD
        generalize wc.drew = wd at OS KR RK BK KA9 hHeld ⊢
        refine take_ (i := 1) (N := some 43) (a' := ?_) #[false, true, false, false, false] rfl rfl (take_ofW HT_.out HW_.out (by kernel_rfl)) (fun _ _ _ h => h) (yieldsIf_load_mid rfl 143 (.tmp 8) rfl b8 0 rfl (#[.int .i64 u_, .int .i64 g_, .slice A_ 16 c_] : Array Value).toList _ (fun w' h j v hv => by rw [blk_cell h]; simpa using hv) Try.underlying143 rfl (by kernel_rfl)) hHeld ?_ ?_
        rotate_left
        · simp only [Act.put, List.setIfInBounds_toArray, List.set_cons_zero, List.set_cons_succ, i64_w, i32_w]
          rfl
        refine one_ (i := 0) (N := some 42) #[true, true, false, false, false] rfl rfl (one_of HT_.out (by kernel_rfl)) (by decide) (fun K hK => ?_)
        refine goes_ Try.func67 (by kernel_rfl) rfl #[] (by rfl) rfl rfl (by (try simp only [List.map_toArray, List.map_cons, List.map_nil]); first | done | rfl) ?_
        refine (spec_l3Master.calls _).mono ?_
        rintro e we ⟨AM, cM, rfl, hC, hc, hw⟩
        refine ⟨_, rfl, ?_⟩
        replace OS := Aside0.mk (OS.out.below hw)
        replace KR := Aside0.mk (KR.out.below hw)
        replace RK := Aside0.mk (RK.out.below hw)
        replace BK := Aside0.mk (blk_below BK.out hw)
        replace KA9 := Aside0.mk (KA9.out.below hw)
        have CM := Aside0.mk (And.intro hC hc)
        clear hC hc hw
        refine hK.out _ _ (BK.out) (fun hHeld => ?_)
        clear hK K
        refine norm_ (a' := ?_) ?_ ?_
        rotate_left
        · show Act.put _ (some 42) _ = _
          simp only [Act.put, List.setIfInBounds_toArray, List.set_cons_zero, List.set_cons_succ, i64_w, i32_w]
          rfl
        refine one_ (i := 2) (N := some 44) #[true, true, true, false, false] rfl rfl (one_of HT_.out (by kernel_rfl)) (by decide) (fun K hK => ?_)
        refine goes_ Try.func91 (by kernel_rfl) rfl #[.slice AM 16 cM, .agg #[.int .i64 u_, .int .i64 g_, .slice A_ 16 c_]] (by rfl) rfl rfl (by (try simp only [List.map_toArray, List.map_cons, List.map_nil]); first | done | rfl) ?_
        refine (wrap_any _ _ _ _ _ _ _ _ CM.out.1 CM.out.2 RK.out KS.out.2.2 KS.out.1 KS.out.2.1).mono ?_
        rintro e wf ⟨AW, nW, cW, rfl, hw⟩
        refine ⟨_, rfl, ?_⟩
        replace OS := Aside0.mk (OS.out.below hw)
        replace KR := Aside0.mk (KR.out.below hw)
        replace BK := Aside0.mk (blk_below BK.out hw)
        replace KA9 := Aside0.mk (KA9.out.below hw)
        clear hw CM RK
        refine hK.out _ _ (BK.out) (fun hHeld => ?_)
        clear hK K
        refine norm_ (a' := ?_) ?_ ?_
        rotate_left
        · show Act.put _ (some 44) _ = _
          simp only [Act.put, List.setIfInBounds_toArray, List.set_cons_zero, List.set_cons_succ, i64_w, i32_w]
          rfl
        refine pure_ (i := 3) (N := some 45) (v := ?_) (a' := ?_) #[true, true, true, true, false] rfl rfl (any_of HT_.out (by kernel_rfl)) (fun _ _ _ h => h) (Or.inl ⟨by rfl, ?_⟩) ?_ ?_
        rotate_left
        · intro w'
          go_simp
          with_reducible rfl
        rotate_left
        · simp only [Act.put, List.setIfInBounds_toArray, List.set_cons_zero, List.set_cons_succ, i64_w, i32_w]
          rfl
        refine one_ (i := 4) (N := none) #[true, true, true, true, true] rfl rfl (one_of HT_.out (by kernel_rfl)) (by decide) (fun K hK => ?_)
        have hcS : wf.cell? ⟨b6, 0, none⟩ = some nilS := OS.out.cell 0
        have hfS := OS.out.frozen 0
        refine skip_ rfl rfl (w1 := wf.setCell ⟨b6, 0, none⟩ (.slice AW nW cW)) (by go_simp) ?_
        clear hcS hfS
        replace BK := Aside0.mk (blk_far BK.out (blk_ne BK.out OS.out.2.2.2 (by decide)) (.slice AW nW cW) : (wf.setCell ⟨b6, 0, none⟩ (.slice AW nW cW)).heap[b8]? = _)
        replace KR := Aside0.mk (KR.out.set OS.out.2.2.2 0 (.slice AW nW cW))
        replace KA9 := Aside0.mk (KA9.out.set OS.out.2.2.2 0 (.slice AW nW cW))
        replace OS := Aside0.mk (OS.out.set0 (.slice AW nW cW))
        refine hK.out _ _ (BK.out) (fun hHeld => ?_)
        clear hK K
        refine done_ (done_of HT_.out (by kernel_rfl)) ?_
        go_wp2_with fail
        go_meet
        exact ⟨_, rfl, ⟨⟨_, _, _, rfl⟩⟩, OS, KR, KA9⟩
      case rest =>
        obtain ⟨v0, rfl, V0, OS, KR, KA9⟩ := hcut
        clear KA8
        go_upto_region 14 with (fail)
        go_cut [10] from 22 (fun s10 wx => ∃ v3 : Value, s10 = .slice A10 16 c10 ∧ Aside0 (IsSl v3) ∧ Aside0 (OSt w0 wx g s b2 b6 f1 f4 pan v0 v2 v3 nilS nilS) ∧ Aside0 (RowAt wx A10 c10))
        case first =>
          obtain ⟨u_, g_, A_, c_, k_, hu_, hg_, hr_, hb_, hblk_⟩ := KA9.out
          have KS := Aside0.mk (And.intro hu_ (And.intro hg_ hb_))
          have BK := Aside0.mk hblk_
          have RK := Aside0.mk hr_
          clear hu_ hg_ hr_ hb_ hblk_ KA9
          refine start_ (n := 5) (S := fun w' => w'.heap[b9]? = some (.cells #[.int .i64 u_, .int .i64 g_, .slice A_ 16 c_] 143 (0, 0))) (ds := []) #[false, false, false, false, false] (by kernel_rfl) rfl rfl (BK.out) (fun hHeld => ?_); refine with_tabW spec_l5Order.tab14 spec_l5Order.bits14 (fun HT_ HW_ => ?_)
          have BD : Aside0 (Below wc.heap.size wc wc.drew) := ⟨below_drew (Below.refl _ _)⟩
          replace OS := Aside0.mk (OS.out.below BD.out)
          replace KR := Aside0.mk (KR.out.below BD.out)
          replace RK := Aside0.mk (RK.out.below BD.out)
          replace BK := Aside0.mk (blk_below BK.out BD.out)
          clear BD
          generalize wc.drew = wd at OS KR RK BK hHeld ⊢
          refine take_ (i := 1) (N := some 47) (a' := ?_) #[false, true, false, false, false] rfl rfl (take_ofW HT_.out HW_.out (by kernel_rfl)) (fun _ _ _ h => h) (yieldsIf_load_mid rfl 143 (.tmp 9) rfl b9 0 rfl (#[.int .i64 u_, .int .i64 g_, .slice A_ 16 c_] : Array Value).toList _ (fun w' h j v hv => by rw [blk_cell h]; simpa using hv) Try.underlying143 rfl (by kernel_rfl)) hHeld ?_ ?_
          rotate_left
          · simp only [Act.put, List.setIfInBounds_toArray, List.set_cons_zero, List.set_cons_succ, i64_w, i32_w]
            rfl
          refine one_ (i := 0) (N := some 46) #[true, true, false, false, false] rfl rfl (one_of HT_.out (by kernel_rfl)) (by decide) (fun K hK => ?_)
          refine goes_ Try.func67 (by kernel_rfl) rfl #[] (by rfl) rfl rfl (by (try simp only [List.map_toArray, List.map_cons, List.map_nil]); first | done | rfl) ?_
          refine (spec_l3Master.calls _).mono ?_
          rintro e we ⟨AM, cM, rfl, hC, hc, hw⟩
          refine ⟨_, rfl, ?_⟩
          replace OS := Aside0.mk (OS.out.below hw)
          replace KR := Aside0.mk (KR.out.below hw)
          replace RK := Aside0.mk (RK.out.below hw)
          replace BK := Aside0.mk (blk_below BK.out hw)
          have CM := Aside0.mk (And.intro hC hc)
          clear hC hc hw
          refine hK.out _ _ (BK.out) (fun hHeld => ?_)
          clear hK K
          refine norm_ (a' := ?_) ?_ ?_
          rotate_left
          · show Act.put _ (some 46) _ = _
            simp only [Act.put, List.setIfInBounds_toArray, List.set_cons_zero, List.set_cons_succ, i64_w, i32_w]
            rfl
          refine one_ (i := 2) (N := some 48) #[true, true, true, false, false] rfl rfl (one_of HT_.out (by kernel_rfl)) (by decide) (fun K hK => ?_)
          refine goes_ Try.func91 (by kernel_rfl) rfl #[.slice AM 16 cM, .agg #[.int .i64 u_, .int .i64 g_, .slice A_ 16 c_]] (by rfl) rfl rfl (by (try simp only [List.map_toArray, List.map_cons, List.map_nil]); first | done | rfl) ?_
          refine (wrap_any _ _ _ _ _ _ _ _ CM.out.1 CM.out.2 RK.out KS.out.2.2 KS.out.1 KS.out.2.1).mono ?_
          rintro e wf ⟨AW, nW, cW, rfl, hw⟩
          refine ⟨_, rfl, ?_⟩
          replace OS := Aside0.mk (OS.out.below hw)
          replace KR := Aside0.mk (KR.out.below hw)
          replace BK := Aside0.mk (blk_below BK.out hw)
          clear hw CM RK
          refine hK.out _ _ (BK.out) (fun hHeld => ?_)
          clear hK K
          refine norm_ (a' := ?_) ?_ ?_
          rotate_left
          · show Act.put _ (some 48) _ = _
            simp only [Act.put, List.setIfInBounds_toArray, List.set_cons_zero, List.set_cons_succ, i64_w, i32_w]
            rfl
          refine pure_ (i := 3) (N := some 49) (v := ?_) (a' := ?_) #[true, true, true, true, false] rfl rfl (any_of HT_.out (by kernel_rfl)) (fun _ _ _ h => h) (Or.inl ⟨by rfl, ?_⟩) ?_ ?_
          rotate_left
          · intro w'
            go_simp
            with_reducible rfl
          rotate_left
          · simp only [Act.put, List.setIfInBounds_toArray, List.set_cons_zero, List.set_cons_succ, i64_w, i32_w]
            rfl
          refine one_ (i := 4) (N := none) #[true, true, true, true, true] rfl rfl (one_of HT_.out (by kernel_rfl)) (by decide) (fun K hK => ?_)
          have hcS : wf.cell? ⟨b6, 3, none⟩ = some nilS := OS.out.cell 3
          have hfS := OS.out.frozen 3
          refine skip_ rfl rfl (w1 := wf.setCell ⟨b6, 3, none⟩ (.slice AW nW cW)) (by go_simp) ?_
          clear hcS hfS
          replace BK := Aside0.mk (blk_far BK.out (blk_ne BK.out OS.out.2.2.2 (by decide)) (.slice AW nW cW) : (wf.setCell ⟨b6, 3, none⟩ (.slice AW nW cW)).heap[b9]? = _)
          replace KR := Aside0.mk (KR.out.set OS.out.2.2.2 3 (.slice AW nW cW))
          replace OS := Aside0.mk (OS.out.set3 (.slice AW nW cW))
          refine hK.out _ _ (BK.out) (fun hHeld => ?_)
          clear hK K
          refine done_ (done_of HT_.out (by kernel_rfl)) ?_
          go_wp2_with fail
          go_meet
          exact ⟨_, rfl, ⟨⟨_, _, _, rfl⟩⟩, OS, KR⟩
        case rest =>
          obtain ⟨v3, rfl, V3, OS, KR⟩ := hcut
          go_upto_region 15 with (fail)
          go_cut [10] from 22 (fun s10 wx => ∃ v5 : Value, s10 = .slice A10 16 c10 ∧ Aside0 (IsSl v5) ∧ Aside0 (OSt w0 wx g s b2 b6 f1 f4 pan v0 v2 v3 v5 nilS))
          case first =>
            refine start_ (n := 13) (S := fun w' => w'.cell? ⟨b6, 1, none⟩ = some (.int .i64 f1) ∧ w'.cell? ⟨b6, 6, none⟩ = some (.string pan)) (ds := []) #[false, false, false, false, false, false, false, false, false, false, false, false, false] (by kernel_rfl) rfl rfl (⟨OS.out.drew.cell 1, OS.out.drew.cell 6⟩) (fun hHeld => ?_); refine with_tabW spec_l5Order.tab15 spec_l5Order.bits15 (fun HT_ HW_ => ?_)
            have BD : Aside0 (Below wc.heap.size wc wc.drew) := ⟨below_drew (Below.refl _ _)⟩
            replace OS := Aside0.mk (OS.out.below BD.out)
            replace KR := Aside0.mk (KR.out.below BD.out)
            clear BD
            generalize wc.drew = wd at OS KR hHeld ⊢
            refine pure_ (i := 0) (N := some 50) (v := ?_) (a' := ?_) #[true, false, false, false, false, false, false, false, false, false, false, false, false] rfl rfl (any_of HT_.out (by kernel_rfl)) (fun _ _ _ h => h) (Or.inl ⟨by rfl, ?_⟩) ?_ ?_
            rotate_left
            · intro w'
              go_simp
              with_reducible rfl
            rotate_left
            · simp only [Act.put, List.setIfInBounds_toArray, List.set_cons_zero, List.set_cons_succ, i64_w, i32_w]
              rfl
            refine pure_ (i := 1) (N := some 51) (v := ?_) (a' := ?_) #[true, true, false, false, false, false, false, false, false, false, false, false, false] rfl rfl (any_of HT_.out (by kernel_rfl)) (fun _ _ _ h => h) (Or.inl ⟨by rfl, ?_⟩) ?_ ?_
            rotate_left
            · intro w'
              go_simp
              with_reducible rfl
            rotate_left
            · simp only [Act.put, List.setIfInBounds_toArray, List.set_cons_zero, List.set_cons_succ, i64_w, i32_w]
              rfl
            refine pure_ (i := 3) (N := some 53) (v := ?_) (a' := ?_) #[true, true, false, true, false, false, false, false, false, false, false, false, false] rfl rfl (any_of HT_.out (by kernel_rfl)) (fun _ _ _ h => h) (Or.inl ⟨by rfl, ?_⟩) ?_ ?_
            rotate_left
            · intro w'
              go_simp
              with_reducible rfl
            rotate_left
            · simp only [Act.put, List.setIfInBounds_toArray, List.set_cons_zero, List.set_cons_succ, i64_w, i32_w]
              rfl
            refine pure_ (i := 4) (N := some 54) (v := ?_) (a' := ?_) #[true, true, false, true, true, false, false, false, false, false, false, false, false] rfl rfl (any_of HT_.out (by kernel_rfl)) (fun _ _ _ h => h) (Or.inl ⟨by rfl, ?_⟩) ?_ ?_
            rotate_left
            · intro w'
              go_simp
              with_reducible rfl
            rotate_left
            · simp only [Act.put, List.setIfInBounds_toArray, List.set_cons_zero, List.set_cons_succ, i64_w, i32_w]
              rfl
            refine pure_ (i := 6) (N := some 56) (v := ?_) (a' := ?_) #[true, true, false, true, true, false, true, false, false, false, false, false, false] rfl rfl (any_of HT_.out (by kernel_rfl)) (fun _ _ _ h => h) (Or.inl ⟨by rfl, ?_⟩) ?_ ?_
            rotate_left
            · intro w'
              go_simp
              with_reducible rfl
            rotate_left
            · simp only [Act.put, List.setIfInBounds_toArray, List.set_cons_zero, List.set_cons_succ, i64_w, i32_w]
              rfl
            refine take_ (i := 2) (N := some 52) (v := ?_) (a' := ?_) #[true, true, true, true, true, false, true, false, false, false, false, false, false] rfl rfl (take_ofW HT_.out HW_.out (by kernel_rfl)) (fun _ _ _ h => h) (Or.inl ⟨by rfl, ?_⟩) hHeld ?_ ?_
            rotate_left
            · intro w' s0
              obtain ⟨s0, s1⟩ := s0
              go_simp
              with_reducible rfl
            rotate_left
            · simp only [Act.put, List.setIfInBounds_toArray, List.set_cons_zero, List.set_cons_succ, i64_w, i32_w]
              rfl
            refine take_ (i := 5) (N := some 55) (v := ?_) (a' := ?_) #[true, true, true, true, true, true, true, false, false, false, false, false, false] rfl rfl (take_ofW HT_.out HW_.out (by kernel_rfl)) (fun _ _ _ h => h) (Or.inl ⟨by rfl, ?_⟩) hHeld ?_ ?_
            rotate_left
            · intro w' s0
              obtain ⟨s0, s1⟩ := s0
              go_simp
              with_reducible rfl
            rotate_left
            · simp only [Act.put, List.setIfInBounds_toArray, List.set_cons_zero, List.set_cons_succ, i64_w, i32_w]
              rfl
            refine one_ (i := 7) (N := some 57) #[true, true, true, true, true, true, true, true, false, false, false, false, false] rfl rfl (one_of HT_.out (by kernel_rfl)) (by decide) (fun K hK => ?_)
            refine goes_ Try.func93 (by kernel_rfl) rfl #[.pointer (some ⟨g, 0, none⟩), .int .i64 10] (by rfl) rfl rfl (by (try simp only [List.map_toArray, List.map_cons, List.map_nil]); first | done | rfl) ?_
            refine (some_any w0 _ g s HS.out.1 HS.out.2 OS.out.1).mono ?_
            rintro e we ⟨AD, cD, dr, rfl, hr, hb, hi, hk⟩
            refine ⟨_, rfl, ?_⟩
            replace KR := Aside0.mk (KR.out.keep OS.out.1 hk)
            replace OS := Aside0.mk (OS.out.keep hi hk)
            have DR := Aside0.mk (And.intro hr hb)
            clear hr hb hi hk
            refine hK.out _ _ (⟨OS.out.cell 1, OS.out.cell 6⟩) (fun hHeld => ?_)
            clear hK K
            refine norm_ (a' := ?_) ?_ ?_
            rotate_left
            · show Act.put _ (some 57) _ = _
              simp only [Act.put, List.setIfInBounds_toArray, List.set_cons_zero, List.set_cons_succ, i64_w, i32_w]
              rfl
            refine one_ (i := 8) (N := some 58) #[true, true, true, true, true, true, true, true, true, false, false, false, false] rfl rfl (one_of HT_.out (by kernel_rfl)) (by decide) (fun K hK => ?_)
            refine goes_ Try.func19 (by kernel_rfl) rfl #[.int .i64 f1, .string pin, .string pan, .slice AD 10 cD] (by rfl) rfl rfl (by (try simp only [List.map_toArray, List.map_cons, List.map_nil]); first | done | rfl) ?_
            refine (make_any _ _ _ _ _ _ _ DR.out.1 DR.out.2 HP.out HQ.out).mono ?_
            rintro e wf ⟨q1, q3, AB, nB, cB, bl, rfl, hr, hb, hw⟩
            refine ⟨_, rfl, ?_⟩
            replace OS := Aside0.mk (OS.out.below hw)
            replace KR := Aside0.mk (KR.out.below hw)
            have BL := Aside0.mk (And.intro hr hb)
            clear hr hb hw DR
            refine hK.out _ _ (⟨OS.out.cell 1, OS.out.cell 6⟩) (fun hHeld => ?_)
            clear hK K
            refine norm_ (a' := ?_) ?_ ?_
            rotate_left
            · show Act.put _ (some 58) _ = _
              simp only [Act.put, List.setIfInBounds_toArray, List.set_cons_zero, List.set_cons_succ, i64_w, i32_w]
              rfl
            have hfd : ∀ w : World, (Instr.field 38 (.agg #[.int .i64 q1, .slice AB nB cB, .int .i64 q3]) 1).run Try.prog w = .ok (.slice AB nB cB) w := fun _ => by kernel_rfl
            refine pure_ (i := 9) (N := some 59) (v := ?_) (a' := ?_) #[true, true, true, true, true, true, true, true, true, true, false, false, false] rfl rfl (any_of HT_.out (by kernel_rfl)) (fun _ _ _ h => h) (Or.inl ⟨by rfl, ?_⟩) ?_ ?_
            rotate_left
            · intro w'
              go_simp
              with_reducible rfl
            rotate_left
            · simp only [Act.put, List.setIfInBounds_toArray, List.set_cons_zero, List.set_cons_succ, i64_w, i32_w]
              rfl
            clear hfd
            refine one_ (i := 10) (N := some 60) #[true, true, true, true, true, true, true, true, true, true, true, false, false] rfl rfl (one_of HT_.out (by kernel_rfl)) (by decide) (fun K hK => ?_)
            refine goes_ Try.func92 (by kernel_rfl) rfl #[.slice A10 16 c10, .slice AB nB cB, .bool false] (by rfl) rfl rfl (by (try simp only [List.map_toArray, List.map_cons, List.map_nil]); first | done | rfl) ?_
            refine (tdea_call _ _ _ _ _ _ _ KR.out BL.out.1 BL.out.2).mono ?_
            rintro e wg ⟨AW, nW, cW, rfl, hw⟩
            refine ⟨_, rfl, ?_⟩
            replace OS := Aside0.mk (OS.out.below hw)
            clear hw BL KR
            refine hK.out _ _ (⟨OS.out.cell 1, OS.out.cell 6⟩) (fun hHeld => ?_)
            clear hK K
            refine norm_ (a' := ?_) ?_ ?_
            rotate_left
            · show Act.put _ (some 60) _ = _
              simp only [Act.put, List.setIfInBounds_toArray, List.set_cons_zero, List.set_cons_succ, i64_w, i32_w]
              rfl
            refine pure_ (i := 11) (N := some 61) (v := ?_) (a' := ?_) #[true, true, true, true, true, true, true, true, true, true, true, true, false] rfl rfl (any_of HT_.out (by kernel_rfl)) (fun _ _ _ h => h) (Or.inl ⟨by rfl, ?_⟩) ?_ ?_
            rotate_left
            · intro w'
              go_simp
              with_reducible rfl
            rotate_left
            · simp only [Act.put, List.setIfInBounds_toArray, List.set_cons_zero, List.set_cons_succ, i64_w, i32_w]
              rfl
            refine one_ (i := 12) (N := none) #[true, true, true, true, true, true, true, true, true, true, true, true, true] rfl rfl (one_of HT_.out (by kernel_rfl)) (by decide) (fun K hK => ?_)
            have hcS : wg.cell? ⟨b6, 5, none⟩ = some nilS := OS.out.cell 5
            have hfS := OS.out.frozen 5
            refine skip_ rfl rfl (w1 := wg.setCell ⟨b6, 5, none⟩ (.slice AW nW cW)) (by go_simp) ?_
            clear hcS hfS
            replace OS := Aside0.mk (OS.out.set5 (.slice AW nW cW))
            refine hK.out _ _ (⟨OS.out.cell 1, OS.out.cell 6⟩) (fun hHeld => ?_)
            clear hK K
            refine done_ (done_of HT_.out (by kernel_rfl)) ?_
            go_wp2_with fail
            go_meet
            exact ⟨_, rfl, ⟨⟨_, _, _, rfl⟩⟩, OS⟩
          case rest =>
            obtain ⟨v5, rfl, V5, OS⟩ := hcut
            go_wp2_with fail
            refine (some_any w0 _ g s HS.out.1 HS.out.2 OS.out.1).mono ?_
            rintro e we ⟨AD, cD, dr, rfl, hr, hb, hi, hk⟩
            replace OS := Aside0.mk (OS.out.keep hi hk)
            clear hr hb hi hk
            have hc7 : we.cell? ⟨b6, 7, none⟩ = some nilS := OS.out.cell 7
            have hf7 := OS.out.frozen 7
            go_upto_region 17 with (fail)
            replace OS := Aside0.mk (OS.out.set7 (.slice AD 10 cD))
            clear hc7 hf7
            generalize we.setCell ⟨b6, 7, none⟩ (.slice AD 10 cD) = w9 at OS ⊢
            clear we
            obtain ⟨HI, HN, BK2, BK6⟩ := OS.out
            obtain ⟨a0, n0, c0, rfl⟩ := V0.out
            obtain ⟨a2, n2, c2, rfl⟩ := V2.out
            obtain ⟨a3, n3, c3, rfl⟩ := V3.out
            obtain ⟨a5, n5, c5, rfl⟩ := V5.out
            clear V0 V2 V3 V5
            have HE := Aside0.mk (And.intro HI.2 HN)
            clear OS HI HN
            have i0 := blk_cell BK6 0
            have i1 := blk_cell BK6 1
            have i2 := blk_cell BK6 2
            have i3 := blk_cell BK6 3
            have i4 := blk_cell BK6 4
            have i5 := blk_cell BK6 5
            have i6 := blk_cell BK6 6
            have i7 := blk_cell BK6 7
            have HK := Aside0.mk BK2
            have j0 := blk_cell BK2 0
            have j1 := blk_cell BK2 1
            have j2 := blk_cell BK2 2
            have j3 := blk_cell BK2 3
            have j4 := blk_cell BK2 4
            have j5 := blk_cell BK2 5
            have j6 := blk_cell BK2 6
            have j7 := blk_cell BK2 7
            have f0 := blk_frozen BK2 0
            have f1' := blk_frozen BK2 1
            have f2 := blk_frozen BK2 2
            have f3 := blk_frozen BK2 3
            have f4' := blk_frozen BK2 4
            have f5 := blk_frozen BK2 5
            have f6 := blk_frozen BK2 6
            have f7 := blk_frozen BK2 7
            clear BK2 BK6
            go_wp2_with fail
            refine bodyPost_ret (results_cell_slot rfl _ _ b2 57 #[.slice a0 n0 c0, .int .i64 f1, .slice a2 n2 c2, .slice a3 n3 c3, .int .i64 f4, .slice a5 n5 c5, .string pan, .slice AD 10 cD] (0, 0) _ (.string pin) rfl rfl (blk_set (blk_set (blk_set (blk_set (blk_set (blk_set (blk_set (blk_set HK.out _ _) _ _) _ _) _ _) _ _) _ _) _ _) _ _) Try.underlying57 rfl infoOrd) rfl ?_
            exact ⟨a0, a2, a3, a5, AD, n0, n2, n3, n5, 10, c0, c2, c3, c5, cD, f1, f4, pan, pin, qn, pn, rfl, HQ.out.1, HQ.out.2.1, HQ.out.2.2, HP.out.1, HP.out.2.1, HP.out.2.2, below_set (below_set (below_set (below_set (below_set (below_set (below_set (below_set HE.out.1 HE.out.2.1) HE.out.2.1) HE.out.2.1) HE.out.2.1) HE.out.2.1) HE.out.2.1) HE.out.2.1) HE.out.2.1⟩
end Go.Proofs.Ytiejallnkgllnaa
namespace Go.Proofs.Ytiejallnkgllnaa
open Go.RowKit Go.Proofs.YtiejallnkgllnaaW.PrintWords Go.Proofs.YtiejallnkgllnaaW.PrintLast Go.Proofs.YtiejallnkgllnaaW.PrintMore Go.Proofs.Ytiejallnkgllnaa.D
open Go.Proofs.Ytiejallnkgllnaa.LQ
set_option linter.unusedVariables false
set_option linter.unusedSimpArgs false
def spec_DrawOrder.T2 : Bool × List (List Nat × List Nat) := (true, [([], []), ([], []), ([], []), ([0, 0, 0], [0]), ([1, 3, 0, 1, 3], [1]), ([2, 4, 0, 1, 2, 3, 4], [2])])
def spec_DrawOrder.B2 : List Nat := [0, 0, 0, 1, 11, 31]
theorem spec_DrawOrder.tab2 : rtab .any (opsOf Try.f32 2) = spec_DrawOrder.T2 := by kernel_rfl
theorem spec_DrawOrder.bits2 : waitsOk spec_DrawOrder.T2.2 spec_DrawOrder.B2 = true := by kernel_rfl
theorem results_slot_cell_slot {P : Program} {fn : Func} {r p q : Tmp} {ty : TypeId} (h : fn.results = #[.tmp r, .cell p ty, .tmp q]) (tmps : Array Value) (w : World) (g : Nat) (t : TypeId) (cs : Array Value) (fr : Nat × Nat) (d : TypeDesc) (u v : Value)
    (hr : tmps.getD r undef = v) (hp : tmps.getD p undef = .pointer (some ⟨g, 0, none⟩)) (hq : tmps.getD q undef = u) (hg : w.heap[g]? = some (.cells cs t fr))
    (hu : P.underlying ty = some d) (hd : (match d with | .struct _ | .array _ _ => true | _ => false) = true) (hi : (P.info? ty).map (·.size) = some cs.size) :
    (results fn tmps).run P w = .ok (.tuple #[v, .agg cs, u]) w := by
  have hr' : tmps[r]?.getD undef = v := by simpa using hr
  have hp' : tmps[p]?.getD undef = .pointer (some ⟨g, 0, none⟩) := by simpa using hp
  have hq' : tmps[q]?.getD undef = u := by simpa using hq
  simp [results, h, hr', hp', hq', asAddr, run_loadVar_row w g t ty cs fr d hg hu hd hi]
def DrwE (w0 : World) (e : Ending) (w' : World) : Prop := ∃ (AM A0 A2 A3 A5 A7 : Option Addr) (n0 n2 n3 n5 n7 cM c0 c2 c3 c5 c7 : Nat) (f1 f4 : Int) (pan pin : ByteArray),
  e = .returned (.tuple #[.slice AM 16 cM, .agg #[.slice A0 n0 c0, .int .i64 f1, .slice A2 n2 c2, .slice A3 n3 c3, .int .i64 f4, .slice A5 n5 c5, .string pan, .slice A7 n7 c7], .string pin]) ∧
  digOk pan 13 19 = true ∧ digOk pin 4 12 = true ∧ Below w0.heap.size w0 w'
set_option maxHeartbeats 4000000 in
set_option maxRecDepth 100000 in
theorem spec_DrawOrder.any (A0 : Option Addr) (c0 : Nat) (l0 : List Int) (w : World) (hr0 : Kd.C (Kd.int .u8) w A0 l0.length l0) (hc0 : l0.length ≤ c0) (hb : Bytes l0) (hl : l0.length ≤ 1048576) :
    Calls Try.prog 32 #[.slice A0 l0.length c0] w (DrwE w) := by
  have HR := Aside0.mk hr0
  have HC := Aside0.mk (And.intro hb hl)
  clear hr0 hb hl
  go_enter Try.func32, Try.ntmps32
  go_wp2_with fail
  have HB : Aside0 (Below w.heap.size w (w.alloc (.cells #[.slice none 0 0, .int .i64 0, .slice none 0 0, .slice none 0 0, .int .i64 0, .slice none 0 0, .string ⟨#[]⟩, .slice none 0 0] 57))) := ⟨(Below.refl _ _).alloc (Nat.le_refl _) _⟩
  have BK3 := Aside0.mk (blk_new w (.cells #[.slice none 0 0, .int .i64 0, .slice none 0 0, .slice none 0 0, .int .i64 0, .slice none 0 0, .string ⟨#[]⟩, .slice none 0 0] 57))
  replace HR := Aside0.mk (Kd.C_below HR.out HB.out)
  obtain ⟨b3, hb3⟩ : ∃ b3, b3 = w.heap.size := ⟨_, rfl⟩
  have HN : Aside0 (w.heap.size ≤ b3) := ⟨by omega⟩
  have hz : w.heap.size + 1 = (w.alloc (.cells #[.slice none 0 0, .int .i64 0, .slice none 0 0, .slice none 0 0, .int .i64 0, .slice none 0 0, .string ⟨#[]⟩, .slice none 0 0] 57)).heap.size := by simp
  rw [hz]
  rw [← hb3] at BK3 ⊢
  clear hz hb3
  generalize w.alloc (.cells #[.slice none 0 0, .int .i64 0, .slice none 0 0, .slice none 0 0, .int .i64 0, .slice none 0 0, .string ⟨#[]⟩, .slice none 0 0] 57) = w1 at HB BK3 HR ⊢
  have HO : Aside0 (OI w1 (w1.alloc (.cells #[.slice A0 l0.length c0, .int .i64 0] 107)) w1.heap.size l0) := ⟨OI.mk' (p := 0) ⟨Int.le_refl _, by omega⟩ (IsS107.new w1 w1 A0 c0 l0 0 (Below.refl _ _) HR.out) (below_alloc (Below.refl _ _) _)⟩
  refine (spec_l5Order.any w1 _ _ l0 HC.out.1 HC.out.2 HO.out).mono ?_
  rintro e w2 ⟨A0, A2, A3, A5, A7, n0, n2, n3, n5, n7, c0', c2, c3, c5, c7, f1, f4, pan, pin, n, m, rfl, d1, d2, d3, d4, d5, d6, hb2⟩
  have HD := Aside0.mk (And.intro (digOk_dig d1 13 19 (by omega) (by omega)) (digOk_dig d4 4 12 (by omega) (by omega)))
  replace BK3 := Aside0.mk (blk_below BK3.out hb2)
  replace HB := Aside0.mk (below_step HB.out hb2)
  clear d1 d2 d3 d4 d5 d6 hb2 HO HR
  go_upto_region 2 with (fail)
  have BK5 := Aside0.mk (blk_new w2 (.cells #[.slice A0 n0 c0', .int .i64 f1, .slice A2 n2 c2, .slice A3 n3 c3, .int .i64 f4, .slice A5 n5 c5, .string pan, .slice A7 n7 c7] 57))
  have BA : Aside0 (Below w2.heap.size w2 (w2.alloc (.cells #[.slice A0 n0 c0', .int .i64 f1, .slice A2 n2 c2, .slice A3 n3 c3, .int .i64 f4, .slice A5 n5 c5, .string pan, .slice A7 n7 c7] 57))) := ⟨(Below.refl _ _).alloc (Nat.le_refl _) _⟩
  have NE : Aside0 (w2.heap.size ≠ b3) := ⟨fun h => by have := blk_lt BK3.out; omega⟩
  replace BK3 := Aside0.mk (blk_below BK3.out BA.out)
  replace HB := Aside0.mk (below_step HB.out BA.out)
  obtain ⟨b5, hb5⟩ : ∃ b5, b5 = w2.heap.size := ⟨_, rfl⟩
  rw [← hb5] at BK5 NE ⊢
  clear hb5 BA
  replace HN := Aside0.mk (And.intro NE.out HN.out)
  clear NE
  generalize w2.alloc (.cells #[.slice A0 n0 c0', .int .i64 f1, .slice A2 n2 c2, .slice A3 n3 c3, .int .i64 f4, .slice A5 n5 c5, .string pan, .slice A7 n7 c7] 57) = w3 at BK3 BK5 HB ⊢
  clear w2
  refine start_ (n := 6) (S := fun w' => w'.heap[b5]? = some (.cells #[.slice A0 n0 c0', .int .i64 f1, .slice A2 n2 c2, .slice A3 n3 c3, .int .i64 f4, .slice A5 n5 c5, .string pan, .slice A7 n7 c7] 57 (0, 0))) (ds := []) #[false, false, false, false, false, false] (by kernel_rfl) rfl rfl (BK5.out) (fun hHeld => ?_); refine with_tabW spec_DrawOrder.tab2 spec_DrawOrder.bits2 (fun HT_ HW_ => ?_)
  have BD : Aside0 (Below w3.heap.size w3 w3.drew) := ⟨below_drew (Below.refl _ _)⟩
  replace BK5 := Aside0.mk (blk_below BK5.out BD.out)
  replace BK3 := Aside0.mk (blk_below BK3.out BD.out)
  replace HB := Aside0.mk (below_step HB.out BD.out)
  clear BD
  generalize w3.drew = wd at BK5 BK3 HB hHeld ⊢
  refine pure_ (i := 2) (N := some 16) (v := ?_) (a' := ?_) #[false, false, true, false, false, false] rfl rfl (any_of HT_.out (by kernel_rfl)) (fun _ _ _ h => h) (Or.inl ⟨by rfl, ?_⟩) ?_ ?_
  rotate_left
  · intro w'
    go_simp
    with_reducible rfl
  rotate_left
  · simp only [Act.put, List.setIfInBounds_toArray, List.set_cons_zero, List.set_cons_succ, i64_w, i32_w]
    rfl
  refine take_ (i := 1) (N := some 15) (a' := ?_) #[false, true, true, false, false, false] rfl rfl (take_ofW HT_.out HW_.out (by kernel_rfl)) (fun _ _ _ h => h) (yieldsIf_load_mid rfl 57 (.tmp 5) rfl b5 0 rfl (#[.slice A0 n0 c0', .int .i64 f1, .slice A2 n2 c2, .slice A3 n3 c3, .int .i64 f4, .slice A5 n5 c5, .string pan, .slice A7 n7 c7] : Array Value).toList _ (fun w' h j v hv => by rw [blk_cell h]; simpa using hv) Try.underlying57 rfl (by kernel_rfl)) hHeld ?_ ?_
  rotate_left
  · simp only [Act.put, List.setIfInBounds_toArray, List.set_cons_zero, List.set_cons_succ, i64_w, i32_w]
    rfl
  refine one_ (i := 0) (N := some 14) #[true, true, true, false, false, false] rfl rfl (one_of HT_.out (by kernel_rfl)) (by decide) (fun K hK => ?_)
  refine goes_ Try.func67 (by kernel_rfl) rfl #[] (by rfl) rfl rfl (by (try simp only [List.map_toArray, List.map_cons, List.map_nil]); first | done | rfl) ?_
  refine (spec_l3Master.calls _).mono ?_
  rintro e we ⟨AM, cM, rfl, hC, hc, hw⟩
  refine ⟨_, rfl, ?_⟩
  replace BK5 := Aside0.mk (blk_below BK5.out hw)
  replace BK3 := Aside0.mk (blk_below BK3.out hw)
  replace HB := Aside0.mk (below_step HB.out hw)
  clear hC hc hw
  refine hK.out _ _ (BK5.out) (fun hHeld => ?_)
  clear hK K
  refine norm_ (a' := ?_) ?_ ?_
  rotate_left
  · show Act.put _ (some 14) _ = _
    simp only [Act.put, List.setIfInBounds_toArray, List.set_cons_zero, List.set_cons_succ, i64_w, i32_w]
    rfl
  refine pure_ (i := 3) (N := some 2) (v := ?_) (a' := ?_) #[true, true, true, true, false, false] rfl rfl (any_of HT_.out (by kernel_rfl)) (fun _ _ _ h => h) (Or.inl ⟨by rfl, ?_⟩) ?_ ?_
  rotate_left
  · intro w'
    go_simp
    with_reducible rfl
  rotate_left
  · simp only [Act.put, List.setIfInBounds_toArray, List.set_cons_zero, List.set_cons_succ, i64_w, i32_w]
    rfl
  refine one_ (i := 4) (N := none) #[true, true, true, true, true, false] rfl rfl (one_of HT_.out (by kernel_rfl)) (by decide) (fun K hK => ?_)
  have j0 := blk_cell BK3.out 0
  have j1 := blk_cell BK3.out 1
  have j2 := blk_cell BK3.out 2
  have j3 := blk_cell BK3.out 3
  have j4 := blk_cell BK3.out 4
  have j5 := blk_cell BK3.out 5
  have j6 := blk_cell BK3.out 6
  have j7 := blk_cell BK3.out 7
  have k0 := blk_frozen BK3.out 0
  have k1 := blk_frozen BK3.out 1
  have k2 := blk_frozen BK3.out 2
  have k3 := blk_frozen BK3.out 3
  have k4 := blk_frozen BK3.out 4
  have k5 := blk_frozen BK3.out 5
  have k6 := blk_frozen BK3.out 6
  have k7 := blk_frozen BK3.out 7
  refine skip_ rfl rfl (w1 := ((((((((we).setCell ⟨b3, 0, none⟩ (.slice A0 n0 c0')).setCell ⟨b3, 1, none⟩ (.int .i64 f1)).setCell ⟨b3, 2, none⟩ (.slice A2 n2 c2)).setCell ⟨b3, 3, none⟩ (.slice A3 n3 c3)).setCell ⟨b3, 4, none⟩ (.int .i64 f4)).setCell ⟨b3, 5, none⟩ (.slice A5 n5 c5)).setCell ⟨b3, 6, none⟩ (.string pan)).setCell ⟨b3, 7, none⟩ (.slice A7 n7 c7)) (by go_simp) ?_
  clear j0 j1 j2 j3 j4 j5 j6 j7 k0 k1 k2 k3 k4 k5 k6 k7
  replace BK5 := Aside0.mk (blk_far (blk_far (blk_far (blk_far (blk_far (blk_far (blk_far (blk_far (BK5.out) (p := ⟨b3, 0, none⟩) HN.out.1 (.slice A0 n0 c0')) (p := ⟨b3, 1, none⟩) HN.out.1 (.int .i64 f1)) (p := ⟨b3, 2, none⟩) HN.out.1 (.slice A2 n2 c2)) (p := ⟨b3, 3, none⟩) HN.out.1 (.slice A3 n3 c3)) (p := ⟨b3, 4, none⟩) HN.out.1 (.int .i64 f4)) (p := ⟨b3, 5, none⟩) HN.out.1 (.slice A5 n5 c5)) (p := ⟨b3, 6, none⟩) HN.out.1 (.string pan)) (p := ⟨b3, 7, none⟩) HN.out.1 (.slice A7 n7 c7))
  replace BK3 := Aside0.mk (blk_set (blk_set (blk_set (blk_set (blk_set (blk_set (blk_set (blk_set (BK3.out) 0 (.slice A0 n0 c0')) 1 (.int .i64 f1)) 2 (.slice A2 n2 c2)) 3 (.slice A3 n3 c3)) 4 (.int .i64 f4)) 5 (.slice A5 n5 c5)) 6 (.string pan)) 7 (.slice A7 n7 c7))
  replace HB := Aside0.mk (below_set (j := 7) (v := (.slice A7 n7 c7)) (below_set (j := 6) (v := (.string pan)) (below_set (j := 5) (v := (.slice A5 n5 c5)) (below_set (j := 4) (v := (.int .i64 f4)) (below_set (j := 3) (v := (.slice A3 n3 c3)) (below_set (j := 2) (v := (.slice A2 n2 c2)) (below_set (j := 1) (v := (.int .i64 f1)) (below_set (j := 0) (v := (.slice A0 n0 c0')) (HB.out) HN.out.2) HN.out.2) HN.out.2) HN.out.2) HN.out.2) HN.out.2) HN.out.2) HN.out.2)
  refine hK.out _ _ (BK5.out) (fun hHeld => ?_)
  clear hK K
  refine pure_ (i := 5) (N := some 4) (v := ?_) (a' := ?_) #[true, true, true, true, true, true] rfl rfl (any_of HT_.out (by kernel_rfl)) (fun _ _ _ h => h) (Or.inl ⟨by rfl, ?_⟩) ?_ ?_
  rotate_left
  · intro w'
    go_simp
    with_reducible rfl
  rotate_left
  · simp only [Act.put, List.setIfInBounds_toArray, List.set_cons_zero, List.set_cons_succ, i64_w, i32_w]
    rfl
  refine done_ (done_of HT_.out (by kernel_rfl)) ?_
  go_wp2_with fail
  refine bodyPost_ret (results_slot_cell_slot rfl _ _ b3 57 #[.slice A0 n0 c0', .int .i64 f1, .slice A2 n2 c2, .slice A3 n3 c3, .int .i64 f4, .slice A5 n5 c5, .string pan, .slice A7 n7 c7] (0, 0) _ (.string pin) (.slice AM 16 cM) rfl rfl rfl BK3.out Try.underlying57 rfl infoOrd) rfl ?_
  exact ⟨AM, A0, A2, A3, A5, A7, n0, n2, n3, n5, n7, cM, c0', c2, c3, c5, c7, f1, f4, pan, pin, rfl, HD.out.1, HD.out.2, HB.out⟩
end Go.Proofs.Ytiejallnkgllnaa
namespace Go.Proofs.Ytiejallnkgllnaa
open Go.RowKit Go.Proofs.YtiejallnkgllnaaW.PrintWords Go.Proofs.YtiejallnkgllnaaW.PrintLast Go.Proofs.YtiejallnkgllnaaW.PrintMore Go.Proofs.Ytiejallnkgllnaa.D
open Go.Proofs.Ytiejallnkgllnaa.LQ
set_option linter.unusedVariables false
set_option linter.unusedSimpArgs false
theorem wrap64_inr {z : Int} (h : -9223372036854775808 ≤ z ∧ z ≤ 9223372036854775807) : wrap64 z = z := by unfold wrap64; omega
theorem cut_loop (x0 : List Int) (x1 n : Nat) (h1 : x1 ≤ 1000) (hn : n ≤ 1000) (hb : Bytes x0) (hl : x0.length ≤ 1048576) : ∀ (d i : Nat) (x7 : List Int), x7.length = n → Bytes x7 → i + d = n → ∀ k, d < k →
    ∃ r, laws_cut.l0 k x0 (x1 : Int) x7 (n : Int) (i : Int) = some r ∧ r.length = n ∧ Bytes r
  | 0, i, x7, h7, hb7, hi, k + 1, _ => by
    refine ⟨x7, ?_, h7, hb7⟩
    rw [laws_cut.l0, if_neg (by omega)]
  | d + 1, i, x7, h7, hb7, hi, k + 1, hk => by
    have hw1 : wrap64 ((x1 : Int) + (i : Int)) = (x1 : Int) + (i : Int) := wrap64_inr (by omega)
    have hw2 : wrap64 ((i : Int) + 1) = ((i + 1 : Nat) : Int) := by rw [wrap64_inr (by omega)]; omega
    rw [laws_cut.l0, if_pos (by omega), hw1, hw2]
    by_cases hlt : (x1 : Int) + (i : Int) < (x0.length : Int)
    · rw [if_pos hlt, if_pos (by omega), if_pos (by omega), if_pos (by omega)]
      refine cut_loop x0 x1 n h1 hn hb hl d (i + 1) _ (by rw [List.length_set]; exact h7) ?_ (by omega) k (by omega)
      intro x hx
      rcases List.mem_or_eq_of_mem_set hx with h | rfl
      · exact hb7 x h
      · exact byte_rd x0 hb _
    · rw [if_neg hlt]
      exact cut_loop x0 x1 n h1 hn hb hl d (i + 1) _ h7 hb7 (by omega) k (by omega)
theorem cut_some (x0 : List Int) (x1 n : Nat) (h1 : x1 ≤ 1000) (hn : n ≤ 1000) (hb : Bytes x0) (hl : x0.length ≤ 1048576) (k : Nat) (hk : n < k) :
    ∃ r, laws_cut.f k x0 (x1 : Int) (n : Int) = some r ∧ r.length = n ∧ Bytes r := by
  unfold laws_cut.f
  rw [if_pos (by omega), if_pos (by omega), Option.bind_some, Int.toNat_natCast, List.length_replicate]
  exact cut_loop x0 x1 n h1 hn hb hl n 0 _ List.length_replicate (fun x hx => by rw [(List.mem_replicate.1 hx).2]; omega) (by omega) k hk
def laws_FnPins.T10 : Bool × List (List Nat × List Nat) := (true, [([], []), ([], []), ([1], [1]), ([], []), ([3], [3]), ([0, 2, 4], [0, 2, 4]), ([5], [5]), ([6], [6])])
def laws_FnPins.B10 : List Nat := [0, 0, 2, 0, 8, 31, 63, 127]
theorem laws_FnPins.tab10 : rtab .any (opsOf Try.f7 10) = laws_FnPins.T10 := by kernel_rfl
theorem laws_FnPins.bits10 : waitsOk laws_FnPins.T10.2 laws_FnPins.B10 = true := by kernel_rfl
def TrueE (w : World) (e : Ending) (w' : World) : Prop := e = .returned (.bool true) ∧ Below w.heap.size w w'
theorem cut_any (W : World) (A : Option Addr) (c : Nat) (l : List Int) (n : Nat) (hr : Kd.C (Kd.int .u8) W A l.length l) (hc : l.length ≤ c) (hb : Bytes l) (hl : l.length ≤ 1048576) (hn : n ≤ 100) :
    Calls Try.prog 33 #[.slice A l.length c, .int .i64 5, .int .i64 (n : Int)] W (MadeE n W) := by
  obtain ⟨r, h1, h2, h3⟩ := cut_some l 5 n (by omega) (by omega) hb hl 200 (by omega)
  refine (laws_cut.calls 200 A c l 5 n r W hr hc h1).mono fun e w' ⟨v, he, ho, hB⟩ => ?_
  obtain ⟨A', c', rfl, hR⟩ := RW.of ho h2
  exact ⟨A', c', r, he, hR, h3, hB⟩
theorem imake_any (W : World) (f : Int) (pin pan : ByteArray) (A : Option Addr) (n c : Nat) (dr : List Int) (r : Int × List Int × Int) (hr : Kd.C (Kd.int .u8) W A dr.length dr) (hn : n = dr.length) (hc : n ≤ c) (hb : Bytes dr) (hp : digOk pin 4 12 = true) (hq : digOk pan 13 19 = true) (h : mpR f pin pan dr = r) :
    Calls Try.prog 20 #[.int .i64 f, .string pin, .string pan, .slice A n c] W fun e w' => ∃ v : Value, e = .returned (.agg #[.int .i64 r.1, v, .int .i64 r.2.2]) ∧ Kd.R (Kd.int .u8) 84 w' W.heap.size (fun _ => True) v r.2.1 ∧ Below W.heap.size W w' := by
  subst hn
  have hps := (digOk_of hp).2
  have hqs := (digOk_of hq).2
  exact impl_MakePin.calls f pin pan A c dr r.1 r.2.1 r.2.2 W hr hc (by unfold impl_MakePin.f; rw [if_pos ⟨by omega, by omega, bytesB_mk hb⟩, h])
theorem iread_any (W : World) (f : Int) (A : Option Addr) (n c : Nat) (bl : List Int) (pan : ByteArray) (r : Int × ByteArray) (hr : Kd.C (Kd.int .u8) W A bl.length bl) (hn : n = bl.length) (hc : n ≤ c) (hb : Bytes bl) (hq : digOk pan 13 19 = true) (h : rpR f bl pan = r) :
    Calls Try.prog 16 #[.int .i64 f, .slice A n c, .string pan] W fun e w' => e = .returned (.agg #[.int .i64 r.1, .string r.2]) ∧ Below W.heap.size W w' := by
  subst hn
  have hqs := (digOk_of hq).2
  exact impl_ReadPin.calls f A c bl pan r.1 r.2 W hr hc (by unfold impl_ReadPin.f; rw [if_pos ⟨by omega, bytesB_mk hb⟩, h])
set_option maxHeartbeats 4000000 in
set_option maxRecDepth 100000 in
theorem laws_FnPins.long (A0 : Option Addr) (c0 : Nat) (n : Nat) (w : World) (hl : ¬ n ≤ 1048576) (hm : n ≤ 9223372036854775807) :
    Calls Try.prog 7 #[.slice A0 n c0] w (TrueE w) := by
  have hd : decide ((1048576 : Int) < (n : Int)) = true := decide_eq_true (by omega)
  clear hl
  go_enter Try.func7, Try.ntmps7
  go_wp2_with fail
  go_ret
  exact ⟨rfl, Below.refl _ _⟩
/-- An order's block, of which the PAN counts. -/
def PanAt (W : World) (b : Nat) (pan : ByteArray) : Prop := ∃ cs, W.heap[b]? = some (.cells cs 57 (0, 0)) ∧ cs[6]? = some (.string pan)
theorem PanAt.below {W W1 : World} {b : Nat} {pan : ByteArray} (h : PanAt W b pan) (k : Below W.heap.size W W1) : PanAt W1 b pan := by
  obtain ⟨cs, h1, h2⟩ := h
  exact ⟨cs, blk_below h1 k, h2⟩
theorem PanAt.cell {W : World} {b : Nat} {pan : ByteArray} (h : PanAt W b pan) : W.cell? ⟨b, 6, none⟩ = some (.string pan) := by
  obtain ⟨cs, h1, h2⟩ := h
  rw [blk_cell h1, h2]
/-- A PIN block's struct, and its row. -/
def BlkAt (W : World) (b : Nat) (A : Option Addr) (c : Nat) (l : List Int) (u : Int) : Prop := W.heap[b]? = some (.cells #[.int .i64 0, .slice A 8 c, .int .i64 u] 38 (0, 0)) ∧ Kd.R (Kd.int .u8) 84 W 0 (fun _ => True) (.slice A 8 c) l
theorem BlkAt.below {W W1 : World} {b : Nat} {A : Option Addr} {c : Nat} {l : List Int} {u : Int} (h : BlkAt W b A c l u) (k : Below W.heap.size W W1) : BlkAt W1 b A c l u := ⟨blk_below h.1 k, Kd.R_below h.2 k⟩
theorem BlkAt.cell {W : World} {b : Nat} {A : Option Addr} {c : Nat} {l : List Int} {u : Int} (h : BlkAt W b A c l u) (i : Nat) : W.cell? ⟨b, i, none⟩ = (#[.int .i64 0, .slice A 8 c, .int .i64 u] : Array Value)[i]? := blk_cell h.1 i
theorem BlkAt.reads {W : World} {b : Nat} {A : Option Addr} {c : Nat} {l : List Int} {u : Int} (h : BlkAt W b A c l u) : 8 = l.length ∧ 8 ≤ c ∧ Kd.C (Kd.int .u8) W A l.length l := Kd.R_reads' h.2
/-- What the law has made. -/
def PSt (w W : World) (b7 b10 b11 : Nat) (pan : ByteArray) (A B : Option Addr) (c d : Nat) (ba bb : List Int) (n : Nat) : Prop := Below w.heap.size w W ∧ PanAt W b7 pan ∧ BlkAt W b10 A c ba 0 ∧ BlkAt W b11 B d bb n
section
variable {w W W1 : World} {b7 b10 b11 : Nat} {pan : ByteArray} {A B : Option Addr} {c d : Nat} {ba bb : List Int} {n : Nat}
theorem PSt.below (h : PSt w W b7 b10 b11 pan A B c d ba bb n) (k : Below W.heap.size W W1) : PSt w W1 b7 b10 b11 pan A B c d ba bb n := ⟨below_step h.1 k, h.2.1.below k, h.2.2.1.below k, h.2.2.2.below k⟩
theorem PSt.cell6 (h : PSt w W b7 b10 b11 pan A B c d ba bb n) : W.cell? ⟨b7, 6, none⟩ = some (.string pan) := h.2.1.cell
end
set_option maxHeartbeats 4000000 in
set_option maxRecDepth 100000 in
theorem laws_FnPins.good (A0 : Option Addr) (c0 : Nat) (l0 : List Int) (w : World) (hr0 : Kd.C (Kd.int .u8) w A0 l0.length l0) (hc0 : l0.length ≤ c0) (hb : Bytes l0) (hl : l0.length ≤ 1048576) :
    Calls Try.prog 7 #[.slice A0 l0.length c0] w (TrueE w) := by
  have hd : decide ((1048576 : Int) < (l0.length : Int)) = false := decide_eq_false (by omega)
  have HR := Aside0.mk hr0
  have HC := Aside0.mk (And.intro hc0 (And.intro hb hl))
  clear hr0 hc0 hb hl
  go_enter Try.func7, Try.ntmps7
  go_wp2_with fail
  refine (spec_DrawOrder.any A0 c0 l0 w HR.out HC.out.1 HC.out.2.1 HC.out.2.2).mono ?_
  rintro e w1 ⟨AM_, A1_, A2_, A3_, A5_, A7_, n1_, n2_, n3_, n5_, n7_, cM_, c1_, c2_, c3_, c5_, c7_, f1_, f4_, pan_, pin, rfl, hq_, hp, hw⟩
  have HP := Aside0.mk hp
  have HB := Aside0.mk (below_step hw ((Below.refl w1.heap.size w1).alloc (Nat.le_refl _) (.cells #[.slice A1_ n1_ c1_, .int .i64 f1_, .slice A2_ n2_ c2_, .slice A3_ n3_ c3_, .int .i64 f4_, .slice A5_ n5_ c5_, .string pan_, .slice A7_ n7_ c7_] 57)))
  clear hq_ hp hw
  go_wp2_with fail
  generalize w1.alloc (.cells #[.slice A1_ n1_ c1_, .int .i64 f1_, .slice A2_ n2_ c2_, .slice A3_ n3_ c3_, .int .i64 f4_, .slice A5_ n5_ c5_, .string pan_, .slice A7_ n7_ c7_] 57) = w2 at HB ⊢
  replace HR := Aside0.mk (Kd.C_below HR.out HB.out)
  refine (spec_DrawOrder.any A0 c0 l0 w2 HR.out HC.out.1 HC.out.2.1 HC.out.2.2).mono ?_
  rintro e w3 ⟨BM_, B1_, B2_, B3_, B5_, B7_, m1_, m2_, m3_, m5_, m7_, dM_, d1_, d2_, d3_, d5_, d7_, g1_, g4_, pan, pin_, rfl, hq, hp_, hw⟩
  have HQ := Aside0.mk hq
  have HW3 := Aside0.mk hw
  clear hq hp_ hw
  go_upto_region 5 with (fail)
  have BA : Aside0 (Below w3.heap.size w3 (w3.alloc (.cells #[.slice B1_ m1_ d1_, .int .i64 g1_, .slice B2_ m2_ d2_, .slice B3_ m3_ d3_, .int .i64 g4_, .slice B5_ m5_ d5_, .string pan, .slice B7_ m7_ d7_] 57))) := ⟨(Below.refl _ _).alloc (Nat.le_refl _) _⟩
  have P7 : Aside0 (PanAt (w3.alloc (.cells #[.slice B1_ m1_ d1_, .int .i64 g1_, .slice B2_ m2_ d2_, .slice B3_ m3_ d3_, .int .i64 g4_, .slice B5_ m5_ d5_, .string pan, .slice B7_ m7_ d7_] 57)) w3.heap.size pan) := ⟨⟨_, blk_new w3 _, rfl⟩⟩
  replace HB := Aside0.mk (below_step (below_step HB.out HW3.out) BA.out)
  replace HR := Aside0.mk (Kd.C_below (Kd.C_below HR.out HW3.out) BA.out)
  obtain ⟨b7, hb7⟩ : ∃ b7, b7 = w3.heap.size := ⟨_, rfl⟩
  rw [← hb7] at P7 ⊢
  clear hb7 BA HW3
  generalize w3.alloc (.cells #[.slice B1_ m1_ d1_, .int .i64 g1_, .slice B2_ m2_ d2_, .slice B3_ m3_ d3_, .int .i64 g4_, .slice B5_ m5_ d5_, .string pan, .slice B7_ m7_ d7_] 57) = w4 at HB P7 HR ⊢
  obtain ⟨hs1, hs2⟩ : 4 ≤ (pin.size : Int) ∧ (pin.size : Int) ≤ 12 := (digOk_of HP.out).2
  obtain ⟨n, hn⟩ : ∃ n : Nat, n = 14 - pin.size := ⟨_, rfl⟩
  go_wp2_with fail
  rw [show (14 - (pin.size : Int)) = (n : Int) by omega]
  have HN := Aside0.mk (And.intro hn (And.intro hs1 hs2))
  clear hn hs1 hs2
  refine (cut_any _ A0 c0 l0 n HR.out HC.out.1 HC.out.2.1 HC.out.2.2 (by have := HN.out; omega)).mono ?_
  rintro e w5 ⟨AF, cF, fill, rfl, hF, hFb, hw⟩
  replace HB := Aside0.mk (below_step HB.out hw)
  replace P7 := Aside0.mk (P7.out.below hw)
  have HF := Aside0.mk hF
  have HFb := Aside0.mk hFb
  have hfl : n = fill.length := hF.reads.1
  have hfc : n ≤ cF := hF.reads.2.1
  obtain ⟨ba, bb, m1, m2, m3, x1, x2, x3, x4, x5, x6, x7, x8⟩ := pins_law pin pan fill HP.out HQ.out (by have := HN.out.1; omega) hFb
  rw [← hfl] at m2
  have HL := Aside0.mk (And.intro m1 (And.intro m2 m3))
  have HX := Aside0.mk (And.intro x1 (And.intro x2 (And.intro x3 x4)))
  have HY := Aside0.mk (And.intro x5 (And.intro x6 (And.intro x7 x8)))
  have HFL := Aside0.mk (And.intro hfl hfc)
  clear m1 m2 m3 x1 x2 x3 x4 x5 x6 x7 x8 hfl hfc hF hFb hw HR HC hd
  have hc6 := P7.out.cell
  go_wp2_with fail
  refine (imake_any _ 0 pin pan none 0 0 [] _ (Kd.C_nil (Kd.int .u8) _) rfl (Nat.le_refl _) (fun x hx => by cases hx) HP.out HQ.out HL.out.1).mono ?_
  rintro e w6 ⟨va, rfl, hra, hw⟩
  obtain ⟨A, c, ea, hRA⟩ : ∃ A c, va = .slice A 8 c ∧ Kd.R (Kd.int .u8) 84 w6 0 (fun _ => True) (.slice A 8 c) ba := by
    obtain ⟨A, c, e⟩ := Kd.R_slice hra
    rw [show ((0 : Int), ba, (0 : Int)).2.1 = ba from rfl, HX.out.2.2.1] at e
    exact ⟨A, c, e, e ▸ Kd.R_lower hra (Nat.zero_le _)⟩
  subst ea
  clear hra hc6
  have BA : Aside0 (Below w5.heap.size w5 (w6.alloc (.cells #[.int .i64 0, .slice A 8 c, .int .i64 0] 38))) := ⟨below_step hw ((Below.refl _ _).alloc (Nat.le_refl _) _)⟩
  have P10 : Aside0 (BlkAt (w6.alloc (.cells #[.int .i64 0, .slice A 8 c, .int .i64 0] 38)) w6.heap.size A c ba 0) := ⟨blk_new w6 _, Kd.R_alloc hRA _⟩
  replace HB := Aside0.mk (below_step HB.out BA.out)
  replace P7 := Aside0.mk (P7.out.below BA.out)
  replace HF := Aside0.mk (HF.out.below BA.out)
  clear hw hRA BA
  have hc6 := P7.out.cell
  go_wp2_with fail
  obtain ⟨b10, hb10⟩ : ∃ b10, b10 = w6.heap.size := ⟨_, rfl⟩
  rw [← hb10] at P10 ⊢
  clear hb10 hc6
  generalize w6.alloc (.cells #[.int .i64 0, .slice A 8 c, .int .i64 0] 38) = w7 at HB P7 HF P10 ⊢
  refine (imake_any _ 3 pin pan AF n cF fill _ HF.out.reads.2.2 HFL.out.1 HFL.out.2 HFb.out HP.out HQ.out HL.out.2.1).mono ?_
  rintro e w8 ⟨vb, rfl, hrb, hw⟩
  obtain ⟨B, d, eb, hRB⟩ : ∃ B d, vb = .slice B 8 d ∧ Kd.R (Kd.int .u8) 84 w8 0 (fun _ => True) (.slice B 8 d) bb := by
    obtain ⟨B, d, e⟩ := Kd.R_slice hrb
    rw [show ((0 : Int), bb, (n : Int)).2.1 = bb from rfl, HX.out.2.2.2] at e
    exact ⟨B, d, e, e ▸ Kd.R_lower hrb (Nat.zero_le _)⟩
  subst eb
  have BA : Aside0 (Below w7.heap.size w7 (w8.alloc (.cells #[.int .i64 0, .slice B 8 d, .int .i64 n] 38))) := ⟨below_step hw ((Below.refl _ _).alloc (Nat.le_refl _) _)⟩
  have P11 : Aside0 (BlkAt (w8.alloc (.cells #[.int .i64 0, .slice B 8 d, .int .i64 n] 38)) w8.heap.size B d bb n) := ⟨blk_new w8 _, Kd.R_alloc hRB _⟩
  have ST : Aside0 (PSt w (w8.alloc (.cells #[.int .i64 0, .slice B 8 d, .int .i64 n] 38)) b7 b10 w8.heap.size pan A B c d ba bb n) := ⟨⟨below_step HB.out BA.out, P7.out.below BA.out, P10.out.below BA.out, P11.out⟩⟩
  replace HF := Aside0.mk (HF.out.below BA.out)
  clear hw hrb hRB BA HB P7 P10 P11
  go_upto_region 8 with (fail)
  obtain ⟨b11, hb11⟩ : ∃ b11, b11 = w8.heap.size := ⟨_, rfl⟩
  rw [← hb11] at ST ⊢
  clear hb11
  generalize w8.alloc (.cells #[.int .i64 0, .slice B 8 d, .int .i64 n] 38) = w9 at HF ST ⊢
  have q0 := ST.out.2.2.1.cell 0
  have q1 := ST.out.2.2.1.cell 1
  have q2 := ST.out.2.2.1.cell 2
  have r0 := ST.out.2.2.2.cell 0
  have r1 := ST.out.2.2.2.cell 1
  have r2 := ST.out.2.2.2.cell 2
  go_upto_region 10 with (fail)
  clear q0 q1 q2 r0 r1 r2
  obtain ⟨i5, hi5, _, hz5, _⟩ := info_parts info5
  obtain ⟨AS, hsl, hsr, hsc⟩ := print_cut_int (P := Try.prog) (k := .u8) 29 5 Try.underlying29 hi5 hz5 AF cF fill 1 (by decide) (by have := HFL.out; have := HN.out; omega) (by have := HFL.out; omega)
  rw [← HFL.out.1] at hsl
  obtain ⟨nS, hnS⟩ : ∃ nS, nS = (fill.drop 1).length := ⟨_, rfl⟩
  obtain ⟨cS, hcS⟩ : ∃ cS, cS = cF - 1 := ⟨_, rfl⟩
  have KS : Aside0 (∀ W : World, (Instr.slice 29 (.slice AF n cF) (some (.int .i64 1)) none none).run Try.prog W = .ok (.slice AS nS cS) W) := ⟨by rw [hnS, hcS]; exact hsl⟩
  have KC : Aside0 (∀ W : World, RW W AF n cF fill → Kd.C (Kd.int .u8) W AS (fill.drop 1).length (fill.drop 1)) := ⟨fun W h => Kd.C_of_reads (d := (0 : Int)) (h1 := fun _ => rfl) (hsr W (Kd.reads_of_C (d := (0 : Int)) h.reads.2.2))⟩
  have KM : Aside0 (∀ W : World, Kd.C (Kd.int .u8) W AS (fill.drop 1).length (fill.drop 1) → Calls Try.prog 20 #[.int .i64 3, .string pin, .string pan, .slice AS nS cS] W fun e w' => ∃ v : Value, e = .returned (.agg #[.int .i64 2, v, .int .i64 0]) ∧ Below W.heap.size W w') := ⟨fun W h =>
    (imake_any W 3 pin pan AS nS cS (fill.drop 1) _ h hnS (by rw [hnS, hcS]; exact hsc) (fun x hx => HFb.out x (List.mem_of_mem_drop hx)) HP.out HQ.out HL.out.2.2).mono fun e w' ⟨v, he, _, hB⟩ => ⟨v, he, hB⟩⟩
  clear hsl hsr hsc hnS hcS hi5 hz5
  go_cut [70] from 63 (fun s70 wx => s70 = .bool false ∧ Aside0 (PSt w wx b7 b10 b11 pan A B c d ba bb n))
  case first =>
    refine start_ (n := 8) (S := fun w' => w'.cell? ⟨b7, 6, none⟩ = some (.string pan)) (ds := []) #[false, false, false, false, false, false, false, false] (by kernel_rfl) rfl rfl (ST.out.cell6) (fun hHeld => ?_); refine with_tabW laws_FnPins.tab10 laws_FnPins.bits10 (fun HT_ HW_ => ?_)
    have BD : Aside0 (Below w9.heap.size w9 w9.drew) := ⟨below_drew (Below.refl _ _)⟩
    replace ST := Aside0.mk (ST.out.below BD.out)
    replace HF := Aside0.mk (HF.out.below BD.out)
    clear BD
    generalize w9.drew = wd at ST HF hHeld ⊢
    refine pure_ (i := 0) (N := some 63) (v := ?_) (a' := ?_) #[true, false, false, false, false, false, false, false] rfl rfl (any_of HT_.out (by kernel_rfl)) (fun _ _ _ h => h) (Or.inl ⟨by rfl, ?_⟩) ?_ ?_
    rotate_left
    · intro w'
      go_simp
      with_reducible rfl
    rotate_left
    · simp only [Act.put, List.setIfInBounds_toArray, List.set_cons_zero, List.set_cons_succ, i64_w, i32_w]
      rfl
    refine pure_ (i := 1) (N := some 64) (v := ?_) (a' := ?_) #[true, true, false, false, false, false, false, false] rfl rfl (any_of HT_.out (by kernel_rfl)) (fun _ _ _ h => h) (Or.inl ⟨by rfl, ?_⟩) ?_ ?_
    rotate_left
    · intro w'
      go_simp
      with_reducible rfl
    rotate_left
    · simp only [Act.put, List.setIfInBounds_toArray, List.set_cons_zero, List.set_cons_succ, i64_w, i32_w]
      rfl
    refine pure_ (i := 3) (N := some 66) (v := ?_) (a' := ?_) #[true, true, false, true, false, false, false, false] rfl rfl (any_of HT_.out (by kernel_rfl)) (fun _ _ _ h => h) (Or.inl ⟨by rfl, ?_⟩) ?_ ?_
    rotate_left
    · intro w'
      go_simp
      with_reducible rfl
    rotate_left
    · simp only [Act.put, List.setIfInBounds_toArray, List.set_cons_zero, List.set_cons_succ, i64_w, i32_w]
      rfl
    refine take_ (i := 2) (N := some 65) (v := ?_) (a' := ?_) #[true, true, true, true, false, false, false, false] rfl rfl (take_ofW HT_.out HW_.out (by kernel_rfl)) (fun _ _ _ h => h) (Or.inl ⟨by rfl, ?_⟩) hHeld ?_ ?_
    rotate_left
    · intro w' s0
      go_simp
      with_reducible rfl
    rotate_left
    · simp only [Act.put, List.setIfInBounds_toArray, List.set_cons_zero, List.set_cons_succ, i64_w, i32_w]
      rfl
    have hsl := KS.out
    refine pure_ (i := 4) (N := some 67) (v := ?_) (a' := ?_) #[true, true, true, true, true, false, false, false] rfl rfl (any_of HT_.out (by kernel_rfl)) (fun _ _ _ h => h) (Or.inl ⟨by rfl, ?_⟩) ?_ ?_
    rotate_left
    · intro w'
      go_simp
      with_reducible rfl
    rotate_left
    · simp only [Act.put, List.setIfInBounds_toArray, List.set_cons_zero, List.set_cons_succ, i64_w, i32_w]
      rfl
    clear hsl
    refine one_ (i := 5) (N := some 68) #[true, true, true, true, true, true, false, false] rfl rfl (one_of HT_.out (by kernel_rfl)) (by decide) (fun K hK => ?_)
    refine goes_ Try.func20 (by kernel_rfl) rfl #[.int .i64 3, .string pin, .string pan, .slice AS nS cS] (by rfl) rfl rfl (by (try simp only [List.map_toArray, List.map_cons, List.map_nil]); first | done | rfl) ?_
    refine (KM.out _ (KC.out _ HF.out)).mono ?_
    rintro e we ⟨v8, rfl, hw⟩
    refine ⟨_, rfl, ?_⟩
    replace ST := Aside0.mk (ST.out.below hw)
    clear hw
    refine hK.out _ _ (ST.out.cell6) (fun hHeld => ?_)
    clear hK K
    refine norm_ (a' := ?_) ?_ ?_
    rotate_left
    · show Act.put _ (some 68) _ = _
      simp only [Act.put, List.setIfInBounds_toArray, List.set_cons_zero, List.set_cons_succ, i64_w, i32_w]
      rfl
    have hfd : ∀ w : World, (Instr.field 38 (.agg #[.int .i64 2, v8, .int .i64 0]) 0).run Try.prog w = .ok (.int .i64 2) w := fun _ => by kernel_rfl
    refine pure_ (i := 6) (N := some 69) (v := ?_) (a' := ?_) #[true, true, true, true, true, true, true, false] rfl rfl (any_of HT_.out (by kernel_rfl)) (fun _ _ _ h => h) (Or.inl ⟨by rfl, ?_⟩) ?_ ?_
    rotate_left
    · intro w'
      go_simp
      with_reducible rfl
    rotate_left
    · simp only [Act.put, List.setIfInBounds_toArray, List.set_cons_zero, List.set_cons_succ, i64_w, i32_w]
      rfl
    clear hfd
    refine pure_ (i := 7) (N := some 70) (v := ?_) (a' := ?_) #[true, true, true, true, true, true, true, true] rfl rfl (any_of HT_.out (by kernel_rfl)) (fun _ _ _ h => h) (Or.inl ⟨by rfl, ?_⟩) ?_ ?_
    rotate_left
    · intro w'
      go_simp
      with_reducible rfl
    rotate_left
    · simp only [Act.put, List.setIfInBounds_toArray, List.set_cons_zero, List.set_cons_succ, i64_w, i32_w]
      rfl
    refine done_ (done_of HT_.out (by kernel_rfl)) ?_
    go_wp2_with fail
    go_meet
    exact ⟨rfl, ST⟩
  case rest =>
    obtain ⟨rfl, ST⟩ := hcut
    clear KS KC KM HF
    have q1 := ST.out.2.2.1.cell 1
    have hc6 := ST.out.cell6
    go_wp2_with fail
    refine (iread_any wc 0 A 8 c ba pan _ ST.out.2.2.1.reads.2.2 ST.out.2.2.1.reads.1 ST.out.2.2.1.reads.2.1 HX.out.1 HQ.out HY.out.1).mono ?_
    rintro e w10 ⟨rfl, hw⟩
    have BA : Aside0 (Below wc.heap.size wc (w10.alloc (.cells #[.int .i64 0, .string pin] 31))) := ⟨below_step hw ((Below.refl _ _).alloc (Nat.le_refl _) _)⟩
    have P12 := Aside0.mk (blk_new w10 (.cells #[.int .i64 0, .string pin] 31))
    replace ST := Aside0.mk (ST.out.below BA.out)
    clear hw BA q1 hc6
    have r1 := ST.out.2.2.2.cell 1
    have hc6 := ST.out.cell6
    go_wp2_with fail
    obtain ⟨b12, hb12⟩ : ∃ b12, b12 = w10.heap.size := ⟨_, rfl⟩
    rw [← hb12] at P12 ⊢
    clear hb12 r1 hc6
    generalize w10.alloc (.cells #[.int .i64 0, .string pin] 31) = w11 at ST P12 ⊢
    refine (iread_any w11 3 B 8 d bb pan _ ST.out.2.2.2.reads.2.2 ST.out.2.2.2.reads.1 ST.out.2.2.2.reads.2.1 HX.out.2.1 HQ.out HY.out.2.1).mono ?_
    rintro e w12 ⟨rfl, hw⟩
    have BA : Aside0 (Below w11.heap.size w11 (w12.alloc (.cells #[.int .i64 0, .string pin] 31))) := ⟨below_step hw ((Below.refl _ _).alloc (Nat.le_refl _) _)⟩
    have P13 := Aside0.mk (blk_new w12 (.cells #[.int .i64 0, .string pin] 31))
    replace P12 := Aside0.mk (blk_below P12.out BA.out)
    replace ST := Aside0.mk (ST.out.below BA.out)
    clear hw BA
    go_upto_region 14 with (fail)
    obtain ⟨b13, hb13⟩ : ∃ b13, b13 = w12.heap.size := ⟨_, rfl⟩
    rw [← hb13] at P13 ⊢
    clear hb13
    generalize w12.alloc (.cells #[.int .i64 0, .string pin] 31) = w13 at ST P12 P13 ⊢
    have q1 := ST.out.2.2.1.cell 1
    have hc6 := ST.out.cell6
    have s0 := blk_cell P12.out 0
    have s1 := blk_cell P12.out 1
    have t0 := blk_cell P13.out 0
    have t1 := blk_cell P13.out 1
    go_wp2_with fail
    have hfd : ∀ w : World, (Instr.field 31 (.agg #[.int .i64 1, .string ⟨#[]⟩]) 0).run Try.prog w = .ok (.int .i64 1) w := fun _ => by kernel_rfl
    refine (iread_any w13 3 A 8 c ba pan (1, ⟨#[]⟩) ST.out.2.2.1.reads.2.2 ST.out.2.2.1.reads.1 ST.out.2.2.1.reads.2.1 HX.out.1 HQ.out HY.out.2.2.1).mono ?_
    rintro e w14 ⟨rfl, hw⟩
    replace ST := Aside0.mk (ST.out.below hw)
    clear hw q1 hc6
    have r1 := ST.out.2.2.2.cell 1
    have hc6 := ST.out.cell6
    go_wp2_with fail
    refine (iread_any w14 0 B 8 d bb pan (1, ⟨#[]⟩) ST.out.2.2.2.reads.2.2 ST.out.2.2.2.reads.1 ST.out.2.2.2.reads.2.1 HX.out.2.1 HQ.out HY.out.2.2.2).mono ?_
    rintro e w15 ⟨rfl, hw⟩
    replace ST := Aside0.mk (ST.out.below hw)
    clear hw r1 hc6
    go_wp2_with fail
    go_ret
    exact ⟨rfl, ST.out.1⟩
theorem laws_FnPins.any (A0 : Option Addr) (c0 : Nat) (l0 : List Int) (w : World) (hr0 : Kd.C (Kd.int .u8) w A0 l0.length l0) (hc0 : l0.length ≤ c0) (hb : Bytes l0) :
    Calls Try.prog 7 #[.slice A0 l0.length c0] w (TrueE w) := by
  by_cases h : l0.length ≤ 1048576
  · exact laws_FnPins.good A0 c0 l0 w hr0 hc0 hb h
  · exact laws_FnPins.long A0 c0 _ w h hr0.2.1
end Go.Proofs.Ytiejallnkgllnaa
namespace Go.Proofs.YtiejallnkgllnaaW.PrintWords
open Go.ChangeShapes Go.WideShapes
end Go.Proofs.YtiejallnkgllnaaW.PrintWords
namespace Go.Proofs.Ytiejallnkgllnaa.fnPins
open Go.ChangeShapes Go.WideShapes Go.ChangeAt Go.RowKit
open Go.ChangeMaps (open_string shut_string)
open Go.Proofs.YtiejallnkgllnaaW.PrintWords Go.Proofs.Ytiejallnkgllnaa.D
set_option linter.unusedVariables false
theorem own : ownKnob Try.prog.godebug = none := by kernel_rfl
theorem laidOut : laidOutB Try.prog = true := by kernel_rfl
def IsRow (k : IntKind) (w : World) (a : Option Addr) (len cap : Nat) (zs : List Int) : Prop :=
  (a = none ∧ len = 0 ∧ cap = 0 ∧ zs = []) ∨
  ∃ x, a = some x ∧ len ≤ cap ∧ cap ≤ maxLen ∧ zs.length = cap ∧ (∀ i, i < zs.length → w.cell? (x.add i) = some (.int k (zs.getD i 0))) ∧ ∀ n ∈ zs, (Lit.int k n).wf = true
theorem byte_of_lit {x : Int} (h : (Lit.int .u8 x).wf = true) : 0 ≤ x ∧ x ≤ 255 := by
  have hmin : IntKind.u8.min = 0 := rfl
  have hmax : IntKind.u8.max = 255 := rfl
  simp only [Lit.wf, Bool.and_eq_true, decide_eq_true_eq] at h
  omega
theorem walk (a : Option Addr) (len cap : Nat) (zs : List Int) (w : World) (h : IsRow .u8 w a len cap zs) : Calls Try.prog 7 #[.slice a len cap] w fun e w' => e = .returned (.bool true) ∧ Below w.heap.size w w' := by
  obtain ⟨l1, rfl, hr1, hm1, hw1, hc1⟩ := ReadsInt.ofRowC h
  exact laws_FnPins.any a cap l1 w (Kd.C_of_reads (d := (0 : Int)) (h1 := fun _ => rfl) hr1) hc1 (fun x hx => byte_of_lit (hw1 x hx))
set_option maxRecDepth 100000 in
theorem lifted (os : Os) (started : os.Started) (H : Type) (enc : TypeId × Value → H) :
    ReturnsInHanded {} Try.checked os 7 .any (Rows.fnPinsSpec.pre6 enc Try.prog Try.f7 Rows.fnPinsRow.domain false) (Rows.fnPinsSpec.post enc Try.prog Try.f7 false true false false) := by
  refine returnsInHanded_of_change_sized (C := Try.checked) own started (by kernel_rfl) Try.func7
    (ChangeSpec.witness6 (enc := enc) (C := Try.checked) false ⟨#[], #[.slice none 0 0], []⟩ 8 (by kernel_rfl) (by kernel_rfl) (by kernel_rfl) (by kernel_rfl)) ?_
  intro W base args ds gs before hval0 hW hcnd hsz0 _
  have hval : ∀ (j : Nat) t v, Try.f7.params[j]? = some t → args[j]? = some v → Value.okWide Try.prog W .any base t v := hval0
  have hW' := hW
  obtain ⟨p, q, hA0, hV, rfl, hfz, hnd⟩ := hW
  have hA : DataW.TrodAll enc Try.prog W 0 (fun _ => true) true Try.f7.params.toList args.toList ds p := hA0
  rw [Try.params7] at hA hval
  obtain ⟨v1, vs1, d1, ds1, p1, q1, hargs, rfl, rfl, h1, r1⟩ := trodAll_cons hA
  obtain ⟨rfl, rfl, rfl⟩ := trodAll_nil r1
  obtain rfl : args = #[v1] := by cases args; simp_all
  obtain ⟨rfl, rfl⟩ := trodVars_none hV
  obtain ⟨a1, len1, cap1, rfl⟩ := okWide_slice Try.underlying29 (hval 0 29 v1 rfl rfl)
  have k1 := h1
  have lt1 : ∀ x ∈ p1, x.block < W.heap.size := by obtain ⟨m, hm⟩ := k1; exact DataW.trod_lt m _ _ _ hm
  obtain ⟨z1, w1⟩ : ∃ zs, IsRow .u8 W a1 len1 cap1 zs := by
    obtain ⟨fuel, hf⟩ := h1
    rcases open_ints Try.underlying29 Try.underlying5 (by kernel_rfl) hf with ⟨hcs, _⟩ | ⟨x, l, c, zs, hcs, _, hl, hm, hz, _, hcell, hwz⟩
    · simp [Value.cells] at hcs
      obtain ⟨rfl, rfl, rfl⟩ := hcs
      exact ⟨[], .inl ⟨rfl, rfl, rfl, rfl⟩⟩
    · simp [Value.cells] at hcs
      obtain ⟨rfl, rfl, rfl⟩ := hcs
      exact ⟨zs, .inr ⟨_, rfl, hl, hm, by simpa using hz, hcell, hwz⟩⟩
  clear hA0 hval0 hsz0
  refine (walk a1 len1 cap1 z1 W w1).mono fun e W' ⟨he, bel⟩ => ?_
  subst he
  exact ⟨_, rfl, _, _, _, [], _, [], hW', trodAll_mk1 (shut_bool Try.underlying4 _), (trodAll_cons_mk (Below.trod laidOut (by kernel_rfl) (of_decide_eq_true (by kernel_rfl)) k1 bel lt1) trodAll_mk0), rfl, bel.frame _, fun h => by cases h⟩
theorem over : Rows.fnPinsRow.holds Try.pinned (OpenSpec.ofChange Rows.fnPinsSpec) :=
  OpenClaim.holds_of_wide 7 Try.f7 rfl rfl rfl rfl rfl rfl rfl ⟨rfl, rfl, rfl, rfl, rfl⟩ rfl rfl rfl rfl rfl (by kernel_rfl) Try.func7 (by kernel_rfl)
    (of_decide_eq_true (by kernel_rfl)) (by unfold Func.isWrapper; first | (rw [if_pos (by decide +kernel)]; kernel_rfl) | (rw [if_neg (by decide +kernel)]; exact ⟨rfl, rfl⟩))
    (fun os started H enc _ => lifted os started H enc)
theorem proved : Rows.FnPinsSaid := over
#print axioms proved
end Go.Proofs.Ytiejallnkgllnaa.fnPins
namespace Go.Proofs.Ytiejallnkgllnaa
/-- The row, under a short name, for the claim. -/
theorem fnPins_holds : Rows.FnPinsSaid := fnPins.proved
end Go.Proofs.Ytiejallnkgllnaa
