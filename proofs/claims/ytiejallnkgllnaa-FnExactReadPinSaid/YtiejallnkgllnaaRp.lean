/- Contract of impl.ReadPin: its deferred function (recover), its body. Conditions: bytes. -/
import Derived.Test.YtiejallnkgllnaaRc
import Derived.Defers
import Derived.Recover
import Derived.Deep.RegionHeld3
import Derived.Deep.RegionWith
import Derived.Test.YtiejallnkgllnaaSlot
namespace Go.Proofs.Ytiejallnkgllnaa
open Go.RowKit Go.Proofs.YtiejallnkgllnaaW.PrintWords Go.Proofs.YtiejallnkgllnaaW.PrintLast Go.Proofs.YtiejallnkgllnaaW.PrintMore Go.Proofs.Ytiejallnkgllnaa.D
open Go.Proofs.Ytiejallnkgllnaa.B (xorL xorL_length)
set_option linter.unusedVariables false
def PT (w : World) (g : Nat) (c : Int) (s : ByteArray) : Prop := w.heap[g]? = some (.cells #[.int .i64 c, .string s] 31)
set_option maxHeartbeats 2000000 in
set_option maxRecDepth 100000 in
theorem catch_panicking (g : Nat) (older : List PanicEntry) (w : World) (B : Nat) (hB : B ≤ g) (h : PT w g 0 ⟨#[]⟩) :
    CallsD Try.prog 47 #[.pointer (some ⟨g, 0, none⟩)] (.panicking ({ v := .iface 78 (.agg #[]), recovered := false } :: older)) w fun e u' w' =>
      e = .returned (.tuple #[]) ∧ u' = .panicking ({ v := .iface 78 (.agg #[]), recovered := true } :: older) ∧ PT w' g 1 ⟨#[]⟩ ∧ Below B w w' := by
  refine callsD_of_wpS Try.func47 rfl fun c₀ cs hu => ?_
  apply wpS_seq
  apply wpS_region
  simp [wpOpsS, go_sem, recoverD, hu, Try.ntmps47, Exit.thenS]
  refine wpS_of_wp ?_
  have z0 : w.cell? ⟨g, 0, none⟩ = some (.int .i64 0) := (blk_cell h 0).trans rfl
  have z1 : w.cell? ⟨g, 1, none⟩ = some (.string ⟨#[]⟩) := (blk_cell h 1).trans rfl
  have f0 := blk_frozen h 0
  have f1 := blk_frozen h 1
  have hg := blk_lt h
  have hta : ∀ W, (Instr.typeAssert (.iface 78 (.agg #[])) 20 78 true).run Try.prog W = .ok (.tuple #[.agg #[], .bool true]) W := fun _ => by kernel_rfl
  simp only [Array.replicate, List.replicate]
  go_wp2_with fail
  refine ⟨rfl, _, rfl, .tuple #[], ?_, rfl, rfl, blk_alloc (blk_set (blk_set h 0 _) 1 _) _, ?_⟩
  · simp [results, Try.results47]
  · exact Below.alloc (((Below.refl B w).setCell (p := ⟨g, 0, none⟩) hB _).setCell (p := ⟨g, 1, none⟩) hB _) (by simp; omega) _
set_option maxHeartbeats 2000000 in
set_option maxRecDepth 100000 in
theorem catch_idle (g : Nat) (w : World) (B : Nat) (hB : B ≤ w.heap.size) :
    CallsD Try.prog 47 #[.pointer (some ⟨g, 0, none⟩)] .returning w fun e u' w' =>
      e = .returned (.tuple #[]) ∧ u' = .returning ∧ ∃ o, w' = w.alloc o := by
  refine callsD_of_wpS Try.func47 rfl fun c₀ cs hu => ?_
  apply wpS_seq
  apply wpS_region
  simp [wpOpsS, go_sem, recoverD, hu, Try.ntmps47, Exit.thenS]
  refine wpS_of_wp ?_
  have hta : ∀ W, (Instr.typeAssert .nilIface 20 78 true).run Try.prog W = .ok (.tuple #[.agg #[], .bool false]) W := fun _ => by kernel_rfl
  simp only [Array.replicate, List.replicate]
  go_wp2_with fail
  refine ⟨rfl, .returning, ?_, .tuple #[], ?_, rfl, rfl, _, rfl⟩
  · cases c₀
    simp only at hu
    subst hu
    rfl
  · simp [results, Try.results47]
theorem infoPT : (Try.prog.info? 31).map (·.size) = some 2 := by kernel_rfl
theorem run_makeFn (fn : Fn) (first cap : Array Value) (w : World) : (Instr.makeFunc fn first cap).run Try.prog w = .ok (.func fn first cap) w := rfl
/-- The door behind a panic that the decoder gave up with. -/
theorem door_bad {tmps : Array Value} {W w : World} (hp : tmps.getD 6 undef = .pointer (some ⟨w.heap.size, 0, none⟩)) (hP : PT W w.heap.size 0 ⟨#[]⟩) (hb : Below w.heap.size w W) {R : Ending → World → Prop} (hR : ∀ w', Below w.heap.size w w' → R (.returned (.agg #[.int .i64 1, .string ⟨#[]⟩])) w') :
    Leaves Try.prog Try.f16 tmps R [{ target := .fn (.func 47) #[.pointer (some ⟨w.heap.size, 0, none⟩)], args := #[] }] (.panicking badP) W := by
  refine leaves_cons (f := 47) (args := #[.pointer (some ⟨w.heap.size, 0, none⟩)]) (by simp) (by simp [go_sem]) ?_
  refine (catch_panicking w.heap.size [] W w.heap.size (Nat.le_refl _) hP).mono ?_
  rintro e u' w'' ⟨rfl, rfl, hP2, hb2⟩
  exact ⟨_, results_cell_row rfl _ _ w.heap.size 31 _ (0, 0) _ hp hP2 Try.underlying31 rfl infoPT, hR _ (hb.trans hb2)⟩
set_option maxHeartbeats 2000000 in
set_option maxRecDepth 100000 in
theorem impl_ReadPin.bad0 (f : Int) (A1 : Option Addr) (n1 c1 : Nat) (pan : ByteArray) (w : World) (h0 : f ≠ 0) (h3 : f ≠ 3) :
    Calls Try.prog 16 #[.int .i64 f, .slice A1 n1 c1, .string pan] w fun e w' => e = .returned (.agg #[.int .i64 1, .string ⟨#[]⟩]) ∧ Below w.heap.size w w' := by
  have hmf := run_makeFn
  have b0 : (f == 0) = false := beq_eq_false_iff_ne.2 h0
  have b3 : (f == 3) = false := beq_eq_false_iff_ne.2 h3
  clear h0 h3
  go_enter_defers Try.func16, Try.ntmps16
  go_wp2_with fail
  with_reducible refine (impl_must.no _).mono ?_
  rintro e w1 ⟨rfl, rfl⟩
  exact door_bad rfl (blk_new w _) ((Below.refl _ _).alloc (Nat.le_refl _) _) (fun _ hb => ⟨rfl, hb⟩)
set_option maxHeartbeats 2000000 in
set_option maxRecDepth 100000 in
theorem impl_ReadPin.bad1 (f : Int) (hf : f = 0 ∨ f = 3) (A1 : Option Addr) (n1 c1 : Nat) (pan : ByteArray) (w : World) (hq : pan.size ≤ 1000000000) (h2 : digOk pan 13 19 = false) :
    Calls Try.prog 16 #[.int .i64 f, .slice A1 n1 c1, .string pan] w fun e w' => e = .returned (.agg #[.int .i64 1, .string ⟨#[]⟩]) ∧ Below w.heap.size w w' := by
  have hmf := run_makeFn
  have BK : Aside0 (PT (w.alloc (.cells #[.int .i64 0, .string ⟨#[]⟩] 31)) w.heap.size 0 ⟨#[]⟩) := ⟨blk_new w _⟩
  have HB : Aside0 (Below w.heap.size w (w.alloc (.cells #[.int .i64 0, .string ⟨#[]⟩] 31))) := ⟨(Below.refl _ _).alloc (Nat.le_refl _) _⟩
  have K2 : Aside0 (∀ w, Calls Try.prog 49 #[.string pan, .int .i64 13, .int .i64 19] w fun e w' => e = .returned (.bool false) ∧ Below w.heap.size w w') := ⟨fun w => by rw [← h2]; exact impl_digits.calls pan 13 19 w (by omega)⟩
  clear h2
  rcases hf with rfl | rfl
  all_goals
    go_enter_defers Try.func16, Try.ntmps16
    go_wp2_with fail
    with_reducible refine (K2.out _).mono ?_
    rintro e w1 ⟨rfl, hb1⟩
    have BK1 := Aside0.mk (blk_below BK.out hb1)
    have HB1 := Aside0.mk (below_step HB.out hb1)
    clear hb1
    go_wp2_with fail
    with_reducible refine (impl_must.no _).mono ?_
    rintro e wz ⟨rfl, rfl⟩
    exact door_bad rfl BK1.out HB1.out (fun _ hb => ⟨rfl, hb⟩)
set_option maxHeartbeats 2000000 in
set_option maxRecDepth 100000 in
theorem impl_ReadPin.bad2 (f : Int) (hf : f = 0 ∨ f = 3) (A1 : Option Addr) (n1 c1 : Nat) (pan : ByteArray) (w : World) (hq : pan.size ≤ 1000000000) (h2 : digOk pan 13 19 = true) (h8 : n1 ≠ 8) :
    Calls Try.prog 16 #[.int .i64 f, .slice A1 n1 c1, .string pan] w fun e w' => e = .returned (.agg #[.int .i64 1, .string ⟨#[]⟩]) ∧ Below w.heap.size w w' := by
  have hmf := run_makeFn
  have BK : Aside0 (PT (w.alloc (.cells #[.int .i64 0, .string ⟨#[]⟩] 31)) w.heap.size 0 ⟨#[]⟩) := ⟨blk_new w _⟩
  have HB : Aside0 (Below w.heap.size w (w.alloc (.cells #[.int .i64 0, .string ⟨#[]⟩] 31))) := ⟨(Below.refl _ _).alloc (Nat.le_refl _) _⟩
  have K2 : Aside0 (∀ w, Calls Try.prog 49 #[.string pan, .int .i64 13, .int .i64 19] w fun e w' => e = .returned (.bool true) ∧ Below w.heap.size w w') := ⟨fun w => by rw [← h2]; exact impl_digits.calls pan 13 19 w (by omega)⟩
  have b8 : ((n1 : Int) == 8) = false := by rw [beq_eq_false_iff_ne]; omega
  clear h2 h8
  rcases hf with rfl | rfl
  all_goals
    go_enter_defers Try.func16, Try.ntmps16
    go_wp2_with fail
    with_reducible refine (K2.out _).mono ?_
    rintro e w1 ⟨rfl, hb1⟩
    have BK1 := Aside0.mk (blk_below BK.out hb1)
    have HB1 := Aside0.mk (below_step HB.out hb1)
    clear hb1
    go_wp2_with fail
    with_reducible refine (impl_must.no _).mono ?_
    rintro e wz ⟨rfl, rfl⟩
    exact door_bad rfl BK1.out HB1.out (fun _ hb => ⟨rfl, hb⟩)
theorem cells8 {w : World} {A : Option Addr} {a b c d e f g i : Int} (h : Kd.C (Kd.int .u8) w A 8 [a, b, c, d, e, f, g, i]) :
    ∃ ad : Addr, A = some ad ∧ w.cell? ad = some (.int .u8 a) ∧ w.cell? ⟨ad.block, ad.off + 1, none⟩ = some (.int .u8 b) ∧ w.cell? ⟨ad.block, ad.off + 2, none⟩ = some (.int .u8 c) ∧ w.cell? ⟨ad.block, ad.off + 3, none⟩ = some (.int .u8 d) ∧ w.cell? ⟨ad.block, ad.off + 4, none⟩ = some (.int .u8 e) ∧ w.cell? ⟨ad.block, ad.off + 5, none⟩ = some (.int .u8 f) ∧ w.cell? ⟨ad.block, ad.off + 6, none⟩ = some (.int .u8 g) ∧ w.cell? ⟨ad.block, ad.off + 7, none⟩ = some (.int .u8 i) := by
  obtain ⟨ad, rfl, hc⟩ := C_cells (l := [a, b, c, d, e, f, g, i]) h (by simp)
  exact ⟨ad, rfl, hc 0 _ rfl, hc 1 _ rfl, hc 2 _ rfl, hc 3 _ rfl, hc 4 _ rfl, hc 5 _ rfl, hc 6 _ rfl, hc 7 _ rfl⟩

theorem array_at {P : Program} {t e : TypeId} {n m : Nat} (ht : P.underlying t = some (.array n e)) (h : n ≤ m) (A : Option Addr) (c : Nat) (w : World) : (Instr.arrayAt t (.slice A m c)).run P w = .ok (.pointer A) w := by
  have : ¬ m < n := by omega
  simp [Instr.arrayAt, run_underlying ht, this]
/-- The door where nothing was given up. -/
theorem door_good {tmps : Array Value} {W w : World} {c : Int} {s : ByteArray} (hp : tmps.getD 6 undef = .pointer (some ⟨w.heap.size, 0, none⟩)) (hP : PT W w.heap.size c s) (hb : Below w.heap.size w W) {R : Ending → World → Prop} (hR : ∀ w', Below w.heap.size w w' → R (.returned (.agg #[.int .i64 c, .string s])) w') :
    Leaves Try.prog Try.f16 tmps R [{ target := .fn (.func 47) #[.pointer (some ⟨w.heap.size, 0, none⟩)], args := #[] }] .returning W := by
  refine leaves_cons (f := 47) (args := #[.pointer (some ⟨w.heap.size, 0, none⟩)]) (by simp) (by simp [go_sem]) ?_
  refine (catch_idle w.heap.size W w.heap.size hb.size).mono ?_
  rintro e u' w'' ⟨rfl, rfl, o, rfl⟩
  exact ⟨_, results_cell_row rfl _ _ w.heap.size 31 _ (0, 0) _ hp (blk_alloc hP o) Try.underlying31 rfl infoPT, hR _ (hb.alloc hb.size _)⟩
def RPend (f : Int) (D : List Int) (e : Ending) : Prop := if rcOk f D = true then ∃ P : ByteArray, e = .returned (.agg #[.int .i64 0, .string P]) ∧ HexOf P ((D.drop 2).take (nth D 1).toNat) else e = .returned (.agg #[.int .i64 1, .string ⟨#[]⟩])
set_option maxHeartbeats 4000000 in
set_option maxRecDepth 100000 in
theorem impl_ReadPin.good (f : Int) (hf : f = 0 ∨ f = 3) (A1 : Option Addr) (l1 : List Int) (c1 : Nat) (pan : ByteArray) (w : World) (hr : Kd.C (Kd.int .u8) w A1 8 l1) (hc : 8 ≤ c1) (hby : Bytes l1) (h2 : digOk pan 13 19 = true) (D : List Int) (hD : D = nibL (xorL l1 (outN (numH (accD pan)) 8))) :
    Calls Try.prog 16 #[.int .i64 f, .slice A1 8 c1, .string pan] w fun e w' => RPend f D e ∧ Below w.heap.size w w' := by
  have hmf := run_makeFn
  obtain ⟨d2, u2, v2⟩ := digOk_of h2
  have K2 : Aside0 (∀ w, Calls Try.prog 49 #[.string pan, .int .i64 13, .int .i64 19] w fun e w' => e = .returned (.bool true) ∧ Below w.heap.size w w') := ⟨fun w => by rw [← h2]; exact impl_digits.calls pan 13 19 w (by omega)⟩
  obtain ⟨a0, a1, a2, a3, a4, a5, a6, a7, rfl⟩ := eight8 l1 hr.1
  obtain ⟨b0, b1, b2, b3, b4, b5, b6, b7, hb⟩ := eight8 (outN (numH (accD pan)) 8) (outN_length _ 8 (by omega))
  have hbb : Bytes [b0, b1, b2, b3, b4, b5, b6, b7] := hb ▸ outN_bytes _
  have K4 : Aside0 (∀ w, Calls Try.prog 52 #[.string pan] w fun e w' => e = .returned (.agg #[.int .u8 b0, .int .u8 b1, .int .u8 b2, .int .u8 b3, .int .u8 b4, .int .u8 b5, .int .u8 b6, .int .u8 b7]) ∧ Below w.heap.size w w') := ⟨fun w => by have := impl_account.at pan w d2 (by omega) (by omega); rw [hb] at this; exact this⟩
  have KX := Aside0.mk (fun (g c : Nat) (w1 : World) (h : Blk w1 g .u8 84 ([a0, a1, a2, a3, a4, a5, a6, a7] ++ [b0, b1, b2, b3, b4, b5, b6, b7])) => xor8_two [a0, a1, a2, a3, a4, a5, a6, a7] [b0, b1, b2, b3, b4, b5, b6, b7] rfl hby rfl g c 84 w1 h)
  rw [hb] at hD
  obtain ⟨cs, hcs⟩ : ∃ cs, cs = xorL [a0, a1, a2, a3, a4, a5, a6, a7] [b0, b1, b2, b3, b4, b5, b6, b7] := ⟨_, rfl⟩
  have hcl : cs.length = 8 := by rw [hcs, xorL_length _ _ (by simp)]; rfl
  have hcb : Bytes cs := by rw [hcs]; exact xorL_bytes _ _ hby hbb
  rw [← hcs] at KX hD
  have K50 := Aside0.mk (fun (w1 : World) => impl_readClear.at f cs w1 hf hcl hcb)
  rw [← hD] at K50
  have HRC := Aside0.mk hr
  clear h2 hb hbb hcs hD hcl hcb hr d2
  by_cases hrc : rcOk f D = true
  · have K5 : Aside0 (∀ w1, Calls Try.prog 50 #[.int .i64 f, .agg (nums .u8 cs).toArray] w1 fun e w' => ∃ P : ByteArray, e = .returned (.string P) ∧ Aside0 (HexOf P ((D.drop 2).take (nth D 1).toNat)) ∧ Below w1.heap.size w1 w') := ⟨fun w1 => (K50.out w1).mono fun e w' ⟨he, hw⟩ => by
      unfold RCend at he
      rw [if_pos hrc] at he
      obtain ⟨P, h1, h2⟩ := he
      exact ⟨P, h1, ⟨h2⟩, hw⟩⟩
    have HYES : Aside0 (∀ P, HexOf P ((D.drop 2).take (nth D 1).toNat) → RPend f D (.returned (.agg #[.int .i64 0, .string P]))) := ⟨fun P hp => by unfold RPend; rw [if_pos hrc]; exact ⟨P, rfl, hp⟩⟩
    clear K50 hrc
    rcases hf with rfl | rfl
    all_goals
      go_enter_defers Try.func16, Try.ntmps16
      go_wp2_with fail
      with_reducible refine (K2.out _).mono ?_
      rintro e w1 ⟨rfl, hb1⟩
      have BK : Aside0 (PT w1 w.heap.size 0 ⟨#[]⟩) := ⟨blk_below (blk_new w _) hb1⟩
      have HB : Aside0 (Below w.heap.size w w1) := ⟨below_step ((Below.refl _ _).alloc (Nat.le_refl _) _) hb1⟩
      clear hb1
      go_wp2_with fail
      with_reducible refine (impl_must.ok _).mono ?_
      rintro e wz ⟨rfl, rfl⟩
      go_wp2_with fail
      have HRW := Aside0.mk (Kd.C_below HRC.out HB.out)
      obtain ⟨ad0, e0, x0, x1, x2, x3, x4, x5, x6, x7⟩ := cells8 HRW.out
      subst e0
      have nn0 := World.new_ne wz ad0 x0
      have hta := fun (A : Option Addr) (c : Nat) (w1 : World) => array_at (P := Try.prog) (t := 84) Try.underlying84 (Nat.le_refl 8) A c w1
      have HWN : Aside0 (w.heap.size ≠ ad0.block) := ⟨Nat.ne_of_gt (by
        obtain ⟨_, e_, y0, _⟩ := cells8 HRC.out
        cases e_
        exact World.block_lt_of_cell? w _ y0)⟩
      have hwn := HWN.out
      go_region_held3 (fun w' => w'.cell? ad0 = some (.int .u8 a0) ∧ w'.cell? ⟨ad0.block, ad0.off + 1, none⟩ = some (.int .u8 a1) ∧ w'.cell? ⟨ad0.block, ad0.off + 2, none⟩ = some (.int .u8 a2) ∧ w'.cell? ⟨ad0.block, ad0.off + 3, none⟩ = some (.int .u8 a3) ∧ w'.cell? ⟨ad0.block, ad0.off + 4, none⟩ = some (.int .u8 a4) ∧ w'.cell? ⟨ad0.block, ad0.off + 5, none⟩ = some (.int .u8 a5) ∧ w'.cell? ⟨ad0.block, ad0.off + 6, none⟩ = some (.int .u8 a6) ∧ w'.cell? ⟨ad0.block, ad0.off + 7, none⟩ = some (.int .u8 a7))
        (go_keep)
        (first | (go_at_call 52; go_must (refine (K4.out _).mono ?_; rintro e w3 ⟨rfl, hb⟩; have HB3 := Aside0.mk (show Below wz.heap.size wz w3 from below_then (by repeat (first | exact Below.refl _ _ | apply below_drew1)) (by first | exact Nat.le_refl _ | simp) hb); clear hb; obtain ⟨_, e_, y0', y1', y2', y3', y4', y5', y6', y7'⟩ := cells8 (Kd.C_below HRW.out HB3.out); cases e_; have nn_y := World.new_ne _ ad0 y0')) | (go_at_call 51; go_must (refine (KX.out _ _ _ ?bb).mono ?_; (case bb => exact (show Blk _ _ _ _ _ from blk_new _ (.cells (nums .u8 [a0, a1, a2, a3, a4, a5, a6, a7, b0, b1, b2, b3, b4, b5, b6, b7]).toArray 84))); rintro e w5 ⟨rfl, hb⟩; have HB5 := Aside0.mk (show Below wz.heap.size wz w5 from below_step (HB3.out.alloc HB3.out.size _) hb); clear hb; obtain ⟨_, e_, u0', u1', u2', u3', u4', u5', u6', u7'⟩ := cells8 (Kd.C_below HRW.out HB5.out); cases e_; have nn_u := World.new_ne _ ad0 u0')) | (go_at_call 50; go_must (refine (K5.out _).mono ?_; rintro e w6 ⟨P, rfl, HP, hb⟩; have HB6 := Aside0.mk (show Below wz.heap.size wz w6 from below_step HB5.out hb); clear hb; obtain ⟨_, e_, t0', t1', t2', t3', t4', t5', t6', t7'⟩ := cells8 (Kd.C_below HRW.out HB6.out); cases e_; have nn_t := World.new_ne _ ad0 t0'; have BK6 := Aside0.mk (show PT w6 w.heap.size 0 ⟨#[]⟩ from blk_below BK.out HB6.out); have z0 : w6.cell? ⟨w.heap.size, 0, none⟩ = some (.int .i64 0) := (blk_cell BK6.out 0).trans rfl; have z1 : w6.cell? ⟨w.heap.size, 1, none⟩ = some (.string ⟨#[]⟩) := (blk_cell BK6.out 1).trans rfl; have f0 := blk_frozen BK6.out 0; have f1 := blk_frozen BK6.out 1)))
      all_goals go_wp2
      all_goals exact door_good rfl (blk_set (blk_set BK6.out 0 _) 1 _) (((below_step HB.out HB6.out).setCell (p := ⟨w.heap.size, 0, none⟩) (Nat.le_refl _) _).setCell (p := ⟨w.heap.size, 1, none⟩) (Nat.le_refl _) _) (fun _ hb => ⟨HYES.out _ HP.out, hb⟩)
  · have K5 : Aside0 (∀ w1, Calls Try.prog 50 #[.int .i64 f, .agg (nums .u8 cs).toArray] w1 fun e w' => e = .panicked badP ∧ Below w1.heap.size w1 w') := ⟨fun w1 => (K50.out w1).mono fun e w' ⟨he, hw⟩ => by
      unfold RCend at he
      rw [if_neg hrc] at he
      exact ⟨he, hw⟩⟩
    have HNO : Aside0 (RPend f D (.returned (.agg #[.int .i64 1, .string ⟨#[]⟩]))) := ⟨by unfold RPend; rw [if_neg hrc]⟩
    clear K50 hrc
    rcases hf with rfl | rfl
    all_goals
      go_enter_defers Try.func16, Try.ntmps16
      go_wp2_with fail
      with_reducible refine (K2.out _).mono ?_
      rintro e w1 ⟨rfl, hb1⟩
      have BK : Aside0 (PT w1 w.heap.size 0 ⟨#[]⟩) := ⟨blk_below (blk_new w _) hb1⟩
      have HB : Aside0 (Below w.heap.size w w1) := ⟨below_step ((Below.refl _ _).alloc (Nat.le_refl _) _) hb1⟩
      clear hb1
      go_wp2_with fail
      with_reducible refine (impl_must.ok _).mono ?_
      rintro e wz ⟨rfl, rfl⟩
      go_wp2_with fail
      have HRW := Aside0.mk (Kd.C_below HRC.out HB.out)
      obtain ⟨ad0, e0, x0, x1, x2, x3, x4, x5, x6, x7⟩ := cells8 HRW.out
      subst e0
      have nn0 := World.new_ne wz ad0 x0
      have hta := fun (A : Option Addr) (c : Nat) (w1 : World) => array_at (P := Try.prog) (t := 84) Try.underlying84 (Nat.le_refl 8) A c w1
      have HWN : Aside0 (w.heap.size ≠ ad0.block) := ⟨Nat.ne_of_gt (by
        obtain ⟨_, e_, y0, _⟩ := cells8 HRC.out
        cases e_
        exact World.block_lt_of_cell? w _ y0)⟩
      have hwn := HWN.out
      refine wp_region_any (by kernel_rfl) (wpAny_slot (s := 6) (p := .pointer (some ⟨w.heap.size, 0, none⟩)) (X := fun ch a w1 => ∀ tm : Array Value, tm.getD 6 undef = .pointer (some ⟨w.heap.size, 0, none⟩) → Leaves Try.prog Try.f16 tm (fun e w' => RPend _ D e ∧ Below w.heap.size w w') a.defers (.panicking ch) w1) (dst_all (by kernel_rfl)) (fun ch a w1 hI hX => hX a.tmps hI) _ _ _ _ rfl ?_)
      change wpAny _ _ _ _ _ _ _ (World.drew _)
      refine wpAny_take (i := 0) (v := ?_) rfl (by kernel_rfl) (by kernel_rfl) (by kernel_rfl) (fun _ _ _ h => h) (Or.inl ⟨by rfl, ?_⟩) ?_
      rotate_left
      · intro w'
        go_simp
        with_reducible rfl
      refine wpAny_take (i := 1) (v := ?_) rfl (by kernel_rfl) (by kernel_rfl) (by kernel_rfl) (fun _ _ _ h => h) (Or.inl ⟨by rfl, ?_⟩) ?_
      rotate_left
      · intro w'
        go_simp
        with_reducible rfl
      refine wpAny_take (i := 4) (v := ?_) rfl (by kernel_rfl) (by kernel_rfl) (by kernel_rfl) (fun _ _ _ h => h) (Or.inl ⟨by rfl, ?_⟩) ?_
      rotate_left
      · intro w'
        go_simp
        with_reducible rfl
      refine wpAny_take (i := 2) (v := ?_) rfl (by kernel_rfl) (by kernel_rfl) (by kernel_rfl) (fun _ _ _ h => h) (Or.inl ⟨by rfl, ?_⟩) ?_
      rotate_left
      · intro w'
        go_simp
        with_reducible rfl
      refine wpAny_ready (rs := [3, 5]) (by kernel_rfl) (by simp) ?_
      refine AllReady.cons rfl (fun K hK => ?_) (AllReady.cons rfl (fun K hK => ?_) AllReady.nil)
      · go_simp
        refine hK _ _ ?_
        clear hK K
        refine wpAny_ready (rs := [5]) (by kernel_rfl) (by simp) ?_
        refine AllReady.cons rfl (fun K hK => ?_) AllReady.nil
        go_simp
        refine (K4.out _).mono ?_
        rintro e w3 ⟨rfl, hb⟩
        have HB3 := Aside0.mk (show Below wz.heap.size wz w3 from below_then (by repeat (first | exact Below.refl _ _ | apply below_drew1)) (by first | exact Nat.le_refl _ | simp) hb)
        clear hb
        obtain ⟨_, e_, y0', y1', y2', y3', y4', y5', y6', y7'⟩ := cells8 (Kd.C_below HRW.out HB3.out)
        cases e_
        refine hK _ _ ?_
        clear hK K
        refine wpAny_ready (rs := [6]) (by kernel_rfl) (by simp) ?_
        refine AllReady.cons rfl (fun K hK => ?_) AllReady.nil
        go_simp
        refine hK _ _ ?_
        clear hK K
        refine wpAny_ready (rs := [7]) (by kernel_rfl) (by simp) ?_
        refine AllReady.cons rfl (fun K hK => ?_) AllReady.nil
        go_simp
        refine (KX.out _ _ _ ?_).mono ?_
        · exact (show Blk _ _ _ _ _ from blk_new _ (.cells (nums .u8 [a0, a1, a2, a3, a4, a5, a6, a7, b0, b1, b2, b3, b4, b5, b6, b7]).toArray 84))
        rintro e w5 ⟨rfl, hb⟩
        have HB5 := Aside0.mk (show Below wz.heap.size wz w5 from below_step (HB3.out.alloc HB3.out.size _) hb)
        clear hb
        refine hK _ _ ?_
        clear hK K
        refine wpAny_ready (rs := [8]) (by kernel_rfl) (by simp) ?_
        refine AllReady.cons rfl (fun K hK => ?_) AllReady.nil
        go_simp
        refine (K5.out _).mono ?_
        rintro e w6 ⟨rfl, hb⟩
        have HB6 := Aside0.mk (show Below wz.heap.size wz w6 from below_step HB5.out hb)
        have BK6 := Aside0.mk (show PT w6 w.heap.size 0 ⟨#[]⟩ from blk_below BK.out HB6.out)
        exact fun tm htm => door_bad (by simpa using htm) BK6.out (below_step HB.out HB6.out) (fun _ hb => ⟨HNO.out, hb⟩)
      · go_simp
        refine (K4.out _).mono ?_
        rintro e w3 ⟨rfl, hb⟩
        have HB3 := Aside0.mk (show Below wz.heap.size wz w3 from below_then (by repeat (first | exact Below.refl _ _ | apply below_drew1)) (by first | exact Nat.le_refl _ | simp) hb)
        clear hb
        obtain ⟨_, e_, y0', y1', y2', y3', y4', y5', y6', y7'⟩ := cells8 (Kd.C_below HRW.out HB3.out)
        cases e_
        refine hK _ _ ?_
        clear hK K
        refine wpAny_ready (rs := [3]) (by kernel_rfl) (by simp) ?_
        refine AllReady.cons rfl (fun K hK => ?_) AllReady.nil
        go_simp
        refine hK _ _ ?_
        clear hK K
        refine wpAny_ready (rs := [6]) (by kernel_rfl) (by simp) ?_
        refine AllReady.cons rfl (fun K hK => ?_) AllReady.nil
        go_simp
        refine hK _ _ ?_
        clear hK K
        refine wpAny_ready (rs := [7]) (by kernel_rfl) (by simp) ?_
        refine AllReady.cons rfl (fun K hK => ?_) AllReady.nil
        go_simp
        refine (KX.out _ _ _ ?_).mono ?_
        · exact (show Blk _ _ _ _ _ from blk_new _ (.cells (nums .u8 [a0, a1, a2, a3, a4, a5, a6, a7, b0, b1, b2, b3, b4, b5, b6, b7]).toArray 84))
        rintro e w5 ⟨rfl, hb⟩
        have HB5 := Aside0.mk (show Below wz.heap.size wz w5 from below_step (HB3.out.alloc HB3.out.size _) hb)
        clear hb
        refine hK _ _ ?_
        clear hK K
        refine wpAny_ready (rs := [8]) (by kernel_rfl) (by simp) ?_
        refine AllReady.cons rfl (fun K hK => ?_) AllReady.nil
        go_simp
        refine (K5.out _).mono ?_
        rintro e w6 ⟨rfl, hb⟩
        have HB6 := Aside0.mk (show Below wz.heap.size wz w6 from below_step HB5.out hb)
        have BK6 := Aside0.mk (show PT w6 w.heap.size 0 ⟨#[]⟩ from blk_below BK.out HB6.out)
        exact fun tm htm => door_bad (by simpa using htm) BK6.out (below_step HB.out HB6.out) (fun _ hb => ⟨HNO.out, hb⟩)
end Go.Proofs.Ytiejallnkgllnaa
