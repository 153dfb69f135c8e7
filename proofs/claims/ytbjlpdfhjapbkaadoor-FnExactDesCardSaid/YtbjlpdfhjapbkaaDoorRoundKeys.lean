/- Contract of impl.roundKeys: the 16 keys' numbers. Conditions: a block of 8 bytes; the tables lie there. -/
import Derived.Test.YtbjlpdfhjapbkaaDoorTab
import Derived.Deep.RegionWith
import Derived.Deep.QuietTactic
import Derived.BigQuiet
import Derived.Deep.Cut
namespace Go.Proofs.YtbjlpdfhjapbkaaDoor
open Go.RowKit Go.Proofs.YtbjlpdfhjapbkaaDoorW.PrintWords Go.Proofs.YtbjlpdfhjapbkaaDoorW.PrintLast Go.Proofs.YtbjlpdfhjapbkaaDoorW.PrintMore Go.Proofs.YtbjlpdfhjapbkaaDoor.D Go.Proofs.YtbjlpdfhjapbkaaDoor.B
set_option linter.unusedVariables false

theorem turn_num (c : List Int) (hc : Bits c) (hl : c.length = 28) (n : Nat) (hn : n = 1 ∨ n = 2) :
    Go.bits .and .u64 (Go.bits .or .u64 (num c * 2 ^ n) (num c / 2 ^ (28 - n))) 268435455 = num (turnB n c) := by
  have hb := num_bound c hc
  rw [hl] at hb
  have h1 := num_div c hc n (by omega)
  have h2 := num_mod c hc n (by omega)
  have hs := num_split c n (by omega)
  rw [hl] at h1 h2 hs
  have ht := num_bound (c.take n) (hc.take n)
  have htl : (c.take n).length = n := by rw [List.length_take]; omega
  rw [htl] at ht
  have hd := num_bound (c.drop n) (hc.drop n)
  have hdl : (c.drop n).length = 28 - n := by rw [List.length_drop]; omega
  rw [hdl] at hd
  have e : num (turnB n c) = num (c.drop n) * 2 ^ n + num (c.take n) := by rw [turnB, num_append, htl]
  rw [h1, e]
  generalize num (c.take n) = t at *
  generalize num (c.drop n) = d at *
  generalize num c = x at *
  rcases hn with rfl | rfl
  · rw [or_join x t 1 (by omega) hb.1 ht.1 ht.2 (by omega), and28 _ (by omega) (by omega)]
    omega
  · rw [or_join x t 2 (by omega) hb.1 ht.1 ht.2 (by omega), and28 _ (by omega) (by omega)]
    omega
def turnsTo (ns : List Nat) (c : List Int) : List Int := ns.foldl (fun c n => turnB n c) c
theorem turnsTo_snoc (ns : List Nat) (n : Nat) (c : List Int) : turnsTo (ns ++ [n]) c = turnB n (turnsTo ns c) := by simp [turnsTo]
theorem keysFrom_snoc (ns : List Nat) : ∀ (n : Nat) (c d : List Int), keysFrom (ns ++ [n]) c d = keysFrom ns c d ++ [pickB (turnB n (turnsTo ns c) ++ turnB n (turnsTo ns d)) tPC2] := by
  induction ns with
  | nil => intro n c d; rfl
  | cons m ns ih => intro n c d; simp only [List.cons_append, keysFrom, ih]; rfl
theorem turnsTo_good (ns : List Nat) : ∀ (c : List Int), Bits c → Bits (turnsTo ns c) ∧ (turnsTo ns c).length = c.length := by
  induction ns with
  | nil => intro c h; exact ⟨h, rfl⟩
  | cons m ns ih => intro c h; have := ih (turnB m c) (turnB_bits h m); rw [turnB_length] at this; exact this
def turnAt (i : Nat) : Nat := turnsL.getD i 0
theorem turnAt_12 (i : Nat) (h : i < 16) : turnAt i = 1 ∨ turnAt i = 2 := by
  have : ∀ j : Fin 16, turnAt j.val = 1 ∨ turnAt j.val = 2 := by decide
  exact this ⟨i, h⟩
theorem turns_take (i : Nat) (h : i < 16) : turnsL.take (i + 1) = turnsL.take i ++ [turnAt i] := by
  have : ∀ j : Fin 16, turnsL.take (j.val + 1) = turnsL.take j.val ++ [turnAt j.val] := by decide
  exact this ⟨i, h⟩
def keyOut (c d : List Int) (i : Nat) : List Int := (keysFrom (turnsL.take i) c d).map num ++ List.replicate (16 - i) 0
theorem keyOut_length (c d : List Int) (i : Nat) (h : i ≤ 16) : (keyOut c d i).length = 16 := by
  have h1 : (turnsL.take i).length = i := by rw [List.length_take, show turnsL.length = 16 from rfl]; omega
  rw [keyOut, List.length_append, List.length_map, keysFrom_length, h1, List.length_replicate]
  omega
theorem keyOut_step (c d : List Int) (i : Nat) (h : i < 16) :
    (keyOut c d i).set i (num (pickB (turnB (turnAt i) (turnsTo (turnsL.take i) c) ++ turnB (turnAt i) (turnsTo (turnsL.take i) d)) tPC2)) = keyOut c d (i + 1) := by
  have h1 : ((keysFrom (turnsL.take i) c d).map num).length = i := by rw [List.length_map, keysFrom_length, List.length_take, show turnsL.length = 16 from rfl]; omega
  unfold keyOut
  rw [turns_take i h, keysFrom_snoc, List.map_append, show 16 - i = (16 - (i + 1)) + 1 by omega, List.replicate_succ, List.set_append_right _ _ (by omega), h1, Nat.sub_self, List.set_cons_zero, List.append_assoc]
  rfl
theorem keyOut_all (c d : List Int) : keyOut c d 16 = (keysFrom turnsL c d).map num := by
  unfold keyOut
  rw [show turnsL.take 16 = turnsL from rfl]
  simp
theorem cd_num (c d : List Int) (hc : Bits c) (hd : Bits d) (hcl : c.length = 28) (hdl : d.length = 28) : Go.bits .or .u64 (num c * 268435456) (num d) = num (c ++ d) := by
  have h1 := num_bound c hc
  have h2 := num_bound d hd
  rw [hcl] at h1
  rw [hdl] at h2
  rw [num_append, hdl]
  exact or_join (num c) (num d) 28 (by omega) h1.1 h2.1 h2.2 (by omega)

theorem info77 : (Tryd.prog.info? 77).map (·.size) = some 16 := by kernel_rfl
theorem size3 : (Tryd.prog.info? 3).map (·.size) = some 1 := by kernel_rfl
theorem info70 : (Tryd.prog.info? 70).map (·.size) = some 16 := by kernel_rfl
set_option maxHeartbeats 4000000 in
theorem impl_roundKeys.calls (key : List Int) (w : World) (h8 : key.length = 8) (hb : Bytes key) (ht : Tab w) :
    Calls Tryd.prog 64 #[.agg (nums .u8 key).toArray] w fun e w' => e = .returned (.agg (nums .u64 ((keysB key).map num)).toArray) ∧ Below w.heap.size w w' := by
  obtain ⟨k0, k1, k2, k3, k4, k5, k6, k7, t, rfl⟩ := list8 (l := key) (by omega)
  obtain rfl : t = [] := List.length_eq_zero_iff.1 (by simpa using h8)
  have HT := Aside0.mk ht
  have H8 := Aside0.mk h8
  have KN := Aside0.mk (fun (w1 : World) => impl_number.calls [k0, k1, k2, k3, k4, k5, k6, k7] w1 h8 hb)
  have hk64 : (bitsOf [k0, k1, k2, k3, k4, k5, k6, k7]).length = 64 := by rw [bitsOf_length, h8]
  have hpick := impl_pick_eq (bitsOf [k0, k1, k2, k3, k4, k5, k6, k7]) tPC1 (bitsOf_bits _) (by rw [hk64]; omega) (by decide) (by rw [hk64]; exact within_pc1) 100 (by decide)
  rw [hk64] at hpick
  clear hk64
  obtain ⟨A1, c1, hcell, hle, hC⟩ := HT.out.pc1
  have KP := Aside0.mk (fun (w1 : World) (hC1 : Kd.C (Kd.int .u8) w1 A1 tPC1.length tPC1) => impl_pick_byte.calls 100 (num (bitsOf [k0, k1, k2, k3, k4, k5, k6, k7])) 64 A1 c1 tPC1 _ w1 hC1 hle hpick)
  have hlt := World.block_lt_of_cell? w _ hcell
  have HC1 := Aside0.mk hC
  obtain ⟨cd, hcd⟩ : ∃ cd, cd = pickB (bitsOf [k0, k1, k2, k3, k4, k5, k6, k7]) tPC1 := ⟨_, rfl⟩
  have hcdb : Bits cd := hcd ▸ pickB_bits (bitsOf_bits _) _
  have hcdl : cd.length = 56 := by rw [hcd, pickB_length]; rfl
  have hkb : keysB [k0, k1, k2, k3, k4, k5, k6, k7] = keysFrom turnsL (cd.take 28) (cd.drop 28) := by rw [hcd]; rfl
  rw [← hcd] at KP
  obtain ⟨c, hc⟩ : ∃ c, c = cd.take 28 := ⟨_, rfl⟩
  obtain ⟨d, hd⟩ : ∃ d, d = cd.drop 28 := ⟨_, rfl⟩
  rw [hkb, ← hc, ← hd]
  have hC1 : Aside0 (Bits c ∧ c.length = 28) := ⟨by rw [hc]; exact ⟨hcdb.take _, by rw [List.length_take]; omega⟩⟩
  have hD1 : Aside0 (Bits d ∧ d.length = 28) := ⟨by rw [hd]; exact ⟨hcdb.drop _, by rw [List.length_drop]; omega⟩⟩
  have hsh : Aside0 (num cd / 268435456 = num c) := ⟨by have := num_div cd hcdb 28 (by omega); rw [hcdl] at this; rw [hc]; exact this⟩
  have hbd := num_bound cd hcdb
  rw [hcdl] at hbd
  have han : Aside0 (Go.bits .and .u64 (num cd) 268435455 = num d) := ⟨by rw [and28 _ hbd.1 (by omega)]; have := num_mod cd hcdb 28 (by omega); rw [hcdl] at this; rw [hd]; exact this⟩
  obtain ⟨x, hx⟩ : ∃ x, x = num cd := ⟨_, rfl⟩
  rw [← hx] at hsh han hbd KP
  have hbx := Aside0.mk hbd
  clear hC hle hpick ht hcd hcdb hcdl hkb h8 hb hc hd hx hbd
  go_enter Tryd.func64, Tryd.ntmps64
  go_upto_region 2 with fail
  obtain ⟨z16, hz16⟩ : ∃ z : List Int, z = List.replicate 16 0 := ⟨_, rfl⟩
  have hz : (Obj.cells #[Value.int .u64 0, Value.int .u64 0, Value.int .u64 0, Value.int .u64 0, Value.int .u64 0, Value.int .u64 0, Value.int .u64 0, Value.int .u64 0, Value.int .u64 0, Value.int .u64 0, Value.int .u64 0, Value.int .u64 0, Value.int .u64 0, Value.int .u64 0, Value.int .u64 0, Value.int .u64 0] 70) = Obj.cells (nums .u64 z16).toArray 70 := by rw [hz16]; rfl
  rw [hz]
  have B0 : Blk (w.alloc (.cells (nums .u8 [k0, k1, k2, k3, k4, k5, k6, k7]).toArray 38)) w.heap.size .u8 38 [k0, k1, k2, k3, k4, k5, k6, k7] := blk_new w _
  have B1 : Blk ((w.alloc (.cells (nums .u8 [k0, k1, k2, k3, k4, k5, k6, k7]).toArray 38)).alloc (.cells (nums .u64 z16).toArray 70)) (w.heap.size + 1) .u64 70 z16 := by have := blk_new (w.alloc (.cells (nums .u8 [k0, k1, k2, k3, k4, k5, k6, k7]).toArray 38)) (.cells (nums .u64 z16).toArray 70); simpa [Blk] using this
  have B2 : Blk (((w.alloc (.cells (nums .u8 [k0, k1, k2, k3, k4, k5, k6, k7]).toArray 38)).alloc (.cells (nums .u64 z16).toArray 70)).alloc (.cells (nums .u64 z16).toArray 70)) (w.heap.size + 1 + 1) .u64 70 z16 := by have := blk_new ((w.alloc (.cells (nums .u8 [k0, k1, k2, k3, k4, k5, k6, k7]).toArray 38)).alloc (.cells (nums .u64 z16).toArray 70)) (.cells (nums .u64 z16).toArray 70); simpa [Blk] using this
  have BB : Below w.heap.size w (((w.alloc (.cells (nums .u8 [k0, k1, k2, k3, k4, k5, k6, k7]).toArray 38)).alloc (.cells (nums .u64 z16).toArray 70)).alloc (.cells (nums .u64 z16).toArray 70)) := (((Below.refl _ _).alloc (Nat.le_refl _) _).alloc (by simp) _).alloc (by simp; omega) _
  replace B0 := (B0.alloc (.cells (nums .u64 z16).toArray 70)).alloc (.cells (nums .u64 z16).toArray 70)
  replace B1 := B1.alloc (.cells (nums .u64 z16).toArray 70)
  obtain ⟨W, hW⟩ : ∃ W, W = (((w.alloc (.cells (nums .u8 [k0, k1, k2, k3, k4, k5, k6, k7]).toArray 38)).alloc (.cells (nums .u64 z16).toArray 70)).alloc (.cells (nums .u64 z16).toArray 70)) := ⟨_, rfl⟩
  rw [← hW] at B0 B1 B2 BB ⊢
  clear hW hz
  have hcellW := (BB.cell hlt).trans hcell
  have hb0 := B0.lt
  have hltW : 3 < W.heap.size := World.block_lt_of_cell? W _ hcellW
  have HC1W := Aside0.mk (Kd.C_below HC1.out BB)
  have N1 := Aside0.mk B1
  have N2 := Aside0.mk B2
  have NB := Aside0.mk BB
  have hsz := BB.size
  have q0 := B0.cell 0 (by simp)
  have q1 := B0.cell 1 (by simp)
  have q2 := B0.cell 2 (by simp)
  have q3 := B0.cell 3 (by simp)
  have q4 := B0.cell 4 (by simp)
  have q5 := B0.cell 5 (by simp)
  have q6 := B0.cell 6 (by simp)
  have q7 := B0.cell 7 (by simp)
  simp only [nth, List.getD_cons_zero, List.getD_cons_succ] at q0 q1 q2 q3 q4 q5 q6 q7
  clear B0 B1 B2 BB hcell HC1
  go_cut [4] from 9 (fun s4 wc => s4 = .int .u64 x ∧ Aside0 (Blk wc (w.heap.size + 1) .u64 70 z16) ∧ Aside0 (Blk wc (w.heap.size + 1 + 1) .u64 70 z16) ∧ Aside0 (Below w.heap.size w wc))
  case first =>
    have HW0 : Aside0 (Below W.heap.size W W) := ⟨Below.refl _ _⟩
    go_region_with (first | (go_at_call 57; go_must (refine (KN.out _).mono ?_; rintro e w1 ⟨rfl, hb1⟩; have hcellW1 := (hb1.cell (World.block_lt_of_cell? _ _ hcellW)).trans hcellW; have HB1 := Aside0.mk (below_then (below_drew1 (Below.refl W.heap.size W)) (Nat.le_refl _) hb1); clear hb1)) | (go_at_call 65; go_must (refine (KP.out _ (Kd.C_below HC1W.out HB1.out)).mono ?_; rintro e w2 ⟨rfl, hd2⟩; have HD2 := Aside0.mk (below_then HB1.out HB1.out.size hd2.below); clear hd2)))
    all_goals go_wp2
    all_goals go_meet
    all_goals (case rel => exact ⟨rfl, ⟨N1.out.below HD2.out⟩, ⟨N2.out.below HD2.out⟩, ⟨below_step NB.out HD2.out⟩⟩)
  case rest =>
    obtain ⟨rfl, H1, H2, H3⟩ := hcut
    have hsh1 := hsh.out
    have han1 := han.out
    have hbx1 := hbx.out
    clear KN KP N1 N2 NB HC1W q0 q1 q2 q3 q4 q5 q6 q7 hcellW
    have hrT := Aside0.mk (rangeAt_below HT.out.turns H3.out)
    have ht16 : Aside0 ((nums .i64 (turnsL.map fun (n : Nat) => (n : Int))).length = 16) := ⟨rfl⟩
    go_wp2_with (with_reducible refine wpList_load_mid rfl 77 (.global 4) rfl 4 0 rfl (nums .i64 (turnsL.map fun (n : Nat) => (n : Int))) _ hrT.out Tryd.underlying77 rfl (by rw [info77, ht16.out]) ?_)
    have HT2 := Aside0.mk (HT.out.below H3.out)
    go_loopw [5, 6, 7, 8, 19] (fun v5 v6 v7 v8 v19 wr => ∃ i : Nat, i ≤ 16 ∧ v19 = .int .i64 i ∧ v5 = .int .u64 (num (turnsTo (turnsL.take i) c)) ∧ v6 = .int .u64 (num (turnsTo (turnsL.take i) d)) ∧ Aside0 (Blk wr (w.heap.size + 1) .u64 70 z16) ∧ Aside0 (Blk wr (w.heap.size + 1 + 1) .u64 70 (keyOut c d i)) ∧ Aside0 (Below w.heap.size w wr))
      (fun _ _ _ _ v19 _ => 16 - (intOf v19).toNat)
    case atStart => exact ⟨0, by omega, rfl, rfl, rfl, H1, ⟨by have h_ := H2.out; rw [hz16] at h_; exact h_⟩, H3⟩
    case round =>
      obtain ⟨i, hi, rfl, rfl, rfl, G1, G2, G3⟩ := hrel
      by_cases hlt : i < 16
      · have hidx := run_index_nums (P := Tryd.prog) Tryd.underlying77 Tryd.underlying3 size3 (turnsL.map fun (n : Nat) => (n : Int)) i rfl hlt
        have hnth : nth (turnsL.map fun (n : Nat) => (n : Int)) i = (turnAt i : Int) := by
          have : ∀ j : Fin 16, nth (turnsL.map fun (n : Nat) => (n : Int)) j.val = (turnAt j.val : Int) := by decide
          exact this ⟨i, hlt⟩
        rw [hnth] at hidx
        clear hnth
        have hst := Aside0.mk (keyOut_step c d i hlt)
        have hgc := turnsTo_good (turnsL.take i) c hC1.out.1
        have hgd := turnsTo_good (turnsL.take i) d hD1.out.1
        rw [hC1.out.2] at hgc
        rw [hD1.out.2] at hgd
        have htc := turn_num _ hgc.1 hgc.2 (turnAt i) (turnAt_12 i hlt)
        have htd := turn_num _ hgd.1 hgd.2 (turnAt i) (turnAt_12 i hlt)
        have hbc := num_bound _ hgc.1
        have hbd := num_bound _ hgd.1
        rw [hgc.2] at hbc
        rw [hgd.2] at hbd
        have htk := turns_take i hlt
        have ec : turnsTo (turnsL.take (i + 1)) c = turnB (turnAt i) (turnsTo (turnsL.take i) c) := by rw [htk, turnsTo_snoc]
        have ed : turnsTo (turnsL.take (i + 1)) d = turnB (turnAt i) (turnsTo (turnsL.take i) d) := by rw [htk, turnsTo_snoc]
        have hgc1 := And.intro (turnB_bits hgc.1 (turnAt i)) ((turnB_length (turnAt i) _).trans hgc.2)
        have hgd1 := And.intro (turnB_bits hgd.1 (turnAt i)) ((turnB_length (turnAt i) _).trans hgd.2)
        have hcdn := cd_num _ _ hgc1.1 hgd1.1 hgc1.2 hgd1.2
        have hbc1 := num_bound _ hgc1.1
        rw [hgc1.2] at hbc1
        have hHT := HT.out.below G3.out
        obtain ⟨A5, c5, hcell5, hle5, hC5⟩ := hHT.pc2
        have hl56 : (turnB (turnAt i) (turnsTo (turnsL.take i) c) ++ turnB (turnAt i) (turnsTo (turnsL.take i) d)).length = 56 := by rw [List.length_append, hgc1.2, hgd1.2]
        have hpick := impl_pick_eq _ tPC2 (hgc1.1.append hgd1.1) (by rw [hl56]; omega) (by decide) (by rw [hl56]; exact within_pc2) 100 (by decide)
        rw [hl56] at hpick
        have KP := Aside0.mk (fun (w1 : World) (hC1 : Kd.C (Kd.int .u8) w1 A5 tPC2.length tPC2) => impl_pick_byte.calls 100 _ 56 A5 c5 tPC2 _ w1 hC1 hle5 hpick)
        have HC5 := Aside0.mk hC5
        have q1 := G2.out.free i
        have hq2 := G2.out.lt
        have hq := keyOut_length c d i hi
        have hG2c := G2.out.cell i (by rw [hq]; exact hlt)
        have hn := turnAt_12 i hlt
        obtain ⟨rr, hrr⟩ : ∃ rr, rr = num (pickB (turnB (turnAt i) (turnsTo (turnsL.take i) c) ++ turnB (turnAt i) (turnsTo (turnsL.take i) d)) tPC2) := ⟨_, rfl⟩
        obtain ⟨y2, hy2⟩ : ∃ y, y = num (turnB (turnAt i) (turnsTo (turnsL.take i) c) ++ turnB (turnAt i) (turnsTo (turnsL.take i) d)) := ⟨_, rfl⟩
        rw [← hrr] at hst KP
        rw [← hy2] at hcdn KP
        clear hpick hl56 hle5 hC5 hHT hrr hy2 htk hgc hgd hgc1 hgd1 hq
        obtain ⟨x5, hx5⟩ : ∃ y, y = num (turnsTo (turnsL.take i) c) := ⟨_, rfl⟩
        obtain ⟨x6, hx6⟩ : ∃ y, y = num (turnsTo (turnsL.take i) d) := ⟨_, rfl⟩
        obtain ⟨y5, hy5⟩ : ∃ y, y = num (turnB (turnAt i) (turnsTo (turnsL.take i) c)) := ⟨_, rfl⟩
        obtain ⟨y6, hy6⟩ : ∃ y, y = num (turnB (turnAt i) (turnsTo (turnsL.take i) d)) := ⟨_, rfl⟩
        have EY5 : Aside0 (num (turnsTo (turnsL.take (i + 1)) c) = y5) := ⟨by rw [ec, hy5]⟩
        have EY6 : Aside0 (num (turnsTo (turnsL.take (i + 1)) d) = y6) := ⟨by rw [ed, hy6]⟩
        rw [← hx5] at htc hbc ⊢
        rw [← hx6] at htd hbd ⊢
        rw [← hy5] at htc hcdn hbc1
        rw [← hy6] at htd hcdn
        clear hx5 hx6 ec ed hy5 hy6
        obtain ⟨hb50, hb51⟩ := hbc
        obtain ⟨hb60, hb61⟩ := hbd
        obtain ⟨hb70, hb71⟩ := hbc1
        rcases hn with hn | hn
        all_goals
          rw [hn] at hidx htc htd
          have e28 : (2 : Int) ^ 28 = 268435456 := rfl
          rw [e28] at hb51 hb61 hb71
          clear e28
          first | rw [show (2 : Int) ^ 1 = 2 from rfl, show (2 : Int) ^ (28 - 1) = 134217728 from rfl] at htc htd | rw [show (2 : Int) ^ 2 = 4 from rfl, show (2 : Int) ^ (28 - 2) = 67108864 from rfl] at htc htd
          go_wp2
          go_quiet (fail)
          go_wp2
          go_quiet (fail)
          clear htc htd hidx hsh1 han1
          go_wp2_with (go_at_call 65; go_must (refine (KP.out _ ?cc).mono ?_; (case cc => exact HC5.out); rintro e w2 ⟨rfl, ⟨nd, rfl⟩⟩))
          go_roundw
          case rel =>
            refine ⟨i + 1, by omega, by go_num, by rw [EY5.out], by rw [EY6.out], ⟨(G1.out.below (pw_below_drewN (Below.refl _ _) _)).far (p := ⟨w.heap.size + 1 + 1, i, none⟩) (by simp) _⟩, ⟨?_⟩, ⟨(pw_below_drewN G3.out _).setCell (p := ⟨w.heap.size + 1 + 1, i, none⟩) (by simp; omega) _⟩⟩
            rw [← hst.out]
            exact (G2.out.below (pw_below_drewN (Below.refl _ _) _)).set i rr
          case measure => simp [intOf]; omega
      · obtain rfl : i = 16 := by omega
        have HL16 := Aside0.mk (keyOut_length c d 16 (Nat.le_refl _))
        have HZ16 : Aside0 (z16.length = 16) := ⟨by rw [hz16]; rfl⟩
        have HA := Aside0.mk (keyOut_all c d)
        clear hsh1 han1 hz16
        go_wp2_with (first | (with_reducible refine wpList_load_blk rfl 70 (.tmp 3) rfl (w.heap.size + 1 + 1) rfl Tryd.underlying70 info70 G2.out HL16.out ?_) | (with_reducible refine wpList_store_blk rfl 70 (.tmp 2) (.tmp 50) rfl (w.heap.size + 1) rfl info70 rfl G1.out HZ16.out HL16.out ?_))
        rw [← HA.out]
        refine bodyPost_ret (results_blk rfl _ _ (w.heap.size + 1) Tryd.underlying70 info70 rfl (G1.out.setRow _) HL16.out) rfl ⟨rfl, below_setRow G3.out (by omega) _⟩
end Go.Proofs.YtbjlpdfhjapbkaaDoor
