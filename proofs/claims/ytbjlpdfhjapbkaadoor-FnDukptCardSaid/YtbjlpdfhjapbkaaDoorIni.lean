/- Contracts of impl.DukptInitial. Conditions: bytes; the tables lie there. -/
import Derived.Test.YtbjlpdfhjapbkaaDoorPI
import Derived.Test.YtbjlpdfhjapbkaaDoorPTW
import Derived.Test.YtbjlpdfhjapbkaaDoorTdW
import Derived.Test.YtbjlpdfhjapbkaaDoorMask
namespace Go.Proofs.YtbjlpdfhjapbkaaDoor
open Go.RowKit Go.Proofs.YtbjlpdfhjapbkaaDoorW.PrintWords Go.Proofs.YtbjlpdfhjapbkaaDoorW.PrintLast Go.Proofs.YtbjlpdfhjapbkaaDoorW.PrintMore Go.Proofs.YtbjlpdfhjapbkaaDoor.D Go.Proofs.YtbjlpdfhjapbkaaDoor.B
set_option linter.unusedVariables false

set_option maxHeartbeats 4000000 in
theorem impl_Tdea.calls8b (A0 : Option Addr) (c0 : Nat) (l0 : List Int) (A1 : Option Addr) (c1 : Nat) (l1 : List Int) (dec : Bool) (w : World) (hr0 : Kd.C (Kd.int .u8) w A0 l0.length l0) (hc0 : l0.length ≤ c0) (hr1 : Kd.C (Kd.int .u8) w A1 l1.length l1) (hc1 : l1.length ≤ c1)
    (h0 : l0.length = 16) (hb0 : Bytes l0) (h1 : l1.length = 8) (hb1 : Bytes l1) (ht : Tab w) :
    Calls Tryd.prog 16 #[.slice A0 l0.length c0, .slice A1 l1.length c1, .bool dec] w fun e w' => ∃ g : Nat, e = .returned (.slice (some ⟨g, 0, none⟩) 8 8) ∧ w.heap.size ≤ g ∧ Blk w' g .u8 38 (tdeaL (l0.take 8) (l0.drop 8) l1 dec) ∧ Below w.heap.size w w' := by
  rw [h0] at hr0 hc0 ⊢
  have hl2 : (tdeaL (l0.take 8) (l0.drop 8) l1 dec).length = 8 := tdeaL_length _ _ _ _ h1
  have HT := Aside0.mk ht
  have KP := Aside0.mk (fun (w1 : World) (hC : Kd.C (Kd.int .u8) w1 A0 16 l0) => impl_pairOf.calls A0 c0 l0 w1 hC hc0 h0)
  have KB := Aside0.mk (fun (w1 : World) (t1 : Tab w1) => impl_pair_block.calls (l0.take 8) (l0.drop 8) l1 dec w1 (by rw [List.length_take]; omega) (hb0.take 8) (by rw [List.length_drop]; omega) (hb0.drop 8) h1 hb1 t1)
  rw [List.take_append_drop] at KB
  obtain ⟨u1, hu1⟩ : ∃ u, u = Value.agg (nums .u8 l0).toArray := ⟨_, rfl⟩
  rw [← hu1] at KP KB
  obtain ⟨res, hres⟩ : ∃ r, r = tdeaL (l0.take 8) (l0.drop 8) l1 dec := ⟨_, rfl⟩
  rw [← hres] at KB hl2 ⊢
  have HRC0 := Aside0.mk hr0
  clear hres hu1 ht h0 hb0 hb1 hr0
  obtain ⟨r0, r1, r2, r3, r4, r5, r6, r7, rfl⟩ := eight res hl2
  obtain ⟨d0, d1, d2, d3, d4, d5, d6, d7, rfl⟩ := eight l1 h1
  clear hl2 h1
  simp only [nums, List.map_cons, List.map_nil] at KB
  obtain ⟨ad1, rfl, y0, y1, y2, y3, y4, y5, y6, y7⟩ := cells8 hr1
  have nn1 := World.new_ne w ad1 y0
  have HRC1 := Aside0.mk hr1
  clear hr1
  simp only [List.length_cons, List.length_nil, Nat.zero_add, Nat.reduceAdd] at hc1 ⊢
  go_enter Tryd.func16, Tryd.ntmps16
  go_upto_region 3 with fail
  have hta := fun (A : Option Addr) (c : Nat) (w1 : World) => array_at (P := Tryd.prog) (t := 38) Tryd.underlying38 (Nat.le_refl 8) A c w1
  go_cut [7] from 17 (fun s7 wc => ∃ g : Nat, s7 = .pointer (some ⟨g, 0, none⟩) ∧ Aside0 (w.heap.size ≤ g ∧ Blk wc g .u8 38 [r0, r1, r2, r3, r4, r5, r6, r7]) ∧ Aside0 (Below w.heap.size w wc))
  case first =>
    go_region_held3 (fun w' => w'.cell? ad1 = some (.int .u8 d0) ∧ w'.cell? ⟨ad1.block, ad1.off + 1, none⟩ = some (.int .u8 d1) ∧ w'.cell? ⟨ad1.block, ad1.off + 2, none⟩ = some (.int .u8 d2) ∧ w'.cell? ⟨ad1.block, ad1.off + 3, none⟩ = some (.int .u8 d3) ∧ w'.cell? ⟨ad1.block, ad1.off + 4, none⟩ = some (.int .u8 d4) ∧ w'.cell? ⟨ad1.block, ad1.off + 5, none⟩ = some (.int .u8 d5) ∧ w'.cell? ⟨ad1.block, ad1.off + 6, none⟩ = some (.int .u8 d6) ∧ w'.cell? ⟨ad1.block, ad1.off + 7, none⟩ = some (.int .u8 d7))
      (go_keep)
      (first
        | (go_at_call 37; go_must (refine (KP.out _ ?cc).mono ?_; (case cc => exact Kd.C_below HRC0.out (by repeat (first | exact Below.refl _ _ | apply below_drew1 | apply below_alloc))); rintro e w1 ⟨rfl, hb1⟩; (first | (have HZ := Aside0.mk (blk8_new w (below_then (below_drew1 (Below.refl _ _)) (Nat.le_refl _) hb1)); have HB1 := Aside0.mk (below_then (below_drew1 (below_alloc (Below.refl w.heap.size w) (.cells #[.int .u8 0, .int .u8 0, .int .u8 0, .int .u8 0, .int .u8 0, .int .u8 0, .int .u8 0, .int .u8 0] 38))) (by simp) hb1); clear hb1) | (have HB1 := Aside0.mk (below_then (below_drew1 (Below.refl w.heap.size w)) (Nat.le_refl _) hb1); clear hb1)); obtain ⟨_, e1', y0', y1', y2', y3', y4', y5', y6', y7'⟩ := cells8 (Kd.C_below HRC1.out HB1.out); cases e1'; have nn1' := World.new_ne w1 ad1 y0'))
        | (go_at_call 38; go_must (refine (KB.out _ ?tt).mono ?_; (case tt => exact HT.out.below (by repeat (first | exact HB1.out | apply below_alloc))); rintro e w2 ⟨rfl, hb2⟩; (first | (have HZ2 := Aside0.mk (HZ.out.below hb2); have HZ3 := HZ2; have HB2 := Aside0.mk (below_step HB1.out hb2); clear hb2 HZ) | (have HZ2 := Aside0.mk (blk8_new w1 hb2); have HZ4 := HZ2; have HB2 := Aside0.mk (below_then (below_alloc HB1.out (.cells #[.int .u8 0, .int .u8 0, .int .u8 0, .int .u8 0, .int .u8 0, .int .u8 0, .int .u8 0, .int .u8 0] 38)) (by have := HB1.out.size; simp; omega) hb2); clear hb2) | (have HZ2 := Aside0.mk (blk8_new w2 (Below.refl _ _)); have HB2 := Aside0.mk (below_step HB1.out hb2); clear hb2)); have hz := blk8 HZ2.out; obtain ⟨⟨z0, z1, z2, z3, z4, z5, z6, z7⟩, f0, f1, f2, f3, f4, f5, f6, f7⟩ := hz; obtain ⟨_, e1'', y0'', y1'', y2'', y3'', y4'', y5'', y6'', y7''⟩ := cells8 (Kd.C_below HRC1.out HB2.out); cases e1''; have nn1'' := World.new_ne w2 ad1 y0'')))
    all_goals go_wp2
    all_goals go_meet
    all_goals (case rel =>
      refine ⟨_, rfl, ?_, ?_⟩
      · first | with_reducible exact ⟨⟨Nat.le_refl _, blk_set8 HZ3.out _ _ _ _ _ _ _ _⟩⟩ | with_reducible exact ⟨⟨HB1.out.size, blk_set8 HZ4.out _ _ _ _ _ _ _ _⟩⟩ | with_reducible exact ⟨⟨HB2.out.size, blk_of8 w2 _ _ _ _ _ _ _ _⟩⟩
      · first | with_reducible exact ⟨below_set8 HB2.out (Nat.le_refl _) _ _ _ _ _ _ _ _⟩ | with_reducible exact ⟨below_set8 HB2.out HB1.out.size _ _ _ _ _ _ _ _⟩ | with_reducible exact ⟨HB2.out.alloc HB2.out.size _⟩)
  case rest =>
    obtain ⟨g, rfl, H1, H2⟩ := hcut
    go_wp2
    go_ret
    exact ⟨g, rfl, H1.out.1, H1.out.2, H2.out⟩

theorem encs_nums (xs : List Int) : encs (Value.int .u8) xs = nums .u8 xs := by simp [encs, nums]
/-- 'append' onto a whole block that has no room: a new row. -/
theorem run_append_full {P : Program} {w : World} {ty : TypeId} (t e tt : TypeId) (bytes : Nat) (z : Value) (ht : P.underlying t = some (.slice e)) (hinfo : (P.info? e).map (fun i => (i.zero, i.size, i.bytes)) = some (some z, 1, bytes)) (hz : z.cells.size = 1)
    (g n : Nat) (xs ys : List Int) (hB : Blk w g .u8 tt xs) (hn : xs.length = n) (A : Option Addr) (m c : Nat) (HR : Kd.C (Kd.int .u8) w A m ys) (hm : 0 < m) (hb : (n + m) * bytes ≤ 140737488355328) (hl : n + m ≤ 140737488355328) :
    ∃ v' w', (Builtin.append_ #[t, t] ty #[.slice (some ⟨g, 0, none⟩) n n, .slice A m c]).run P w = .ok v' w' ∧ Kd.R (Kd.int .u8) e w' w.heap.size (fun _ => True) v' (xs ++ ys) ∧ w.grownBy w' none := by
  obtain ⟨i0, hi, hzz⟩ := Option.map_eq_some_iff.1 hinfo
  simp only [Prod.mk.injEq] at hzz
  obtain ⟨hz0, hz1, hz2⟩ := hzz
  have hyl : ys.length = m := HR.1
  subst hyl
  obtain ⟨ad, rfl, hc⟩ := C_cells HR hm
  obtain ⟨v', w', h1, h2, h3⟩ := run_append_arg_grows (P := P) (w := w) t ty e i0 z 1 bytes ht hi hz0 hz1 hz2 hz (by omega) ⟨g, 0, none⟩ n n (nums .u8 xs) (by rw [nums_length]; omega)
    (fun j u hu => by
      have := hB.range j u hu
      rw [Nat.zero_add] at this
      rw [Addr.add_mid, Nat.zero_add]
      exact this) ad ys.length c (nums .u8 ys) (by rw [nums_length]; omega) hc (by omega) (by simp only [maxLen]; omega) hb
  refine ⟨v', w', h1, ?_, h3⟩
  refine Kd.R_of_own (enc := Value.int .u8) (h1 := fun _ => rfl) ?_ (fun _ _ => trivial)
  rw [encs_nums]
  have e1 : nums .u8 (xs ++ ys) = nums .u8 xs ++ nums .u8 ys := by simp [nums]
  rw [e1, List.length_append, hn]
  exact h2
theorem append_full_step {P : Program} {ops : Array Oper} {o : Oper} {a : Act} {w : World} {Q : Exit → Act → World → Prop} {Kc : Act → World → Prop} (hw : Region.wanted o (yielded ops a.tmps) = true) (s x : Operand) (t e tt : TypeId) (bytes : Nat) (z : Value)
    (ho : o.op = .call { callee := .builtin .append, args := #[s, x], argTypes := #[t, t] }) (ht : P.underlying t = some (.slice e)) (hinfo : (P.info? e).map (fun i => (i.zero, i.size, i.bytes)) = some (some z, 1, bytes)) (hz : z.cells.size = 1)
    (g n : Nat) (xs ys : List Int) (A : Option Addr) (m c : Nat) (hs : a.eval s = .slice (some ⟨g, 0, none⟩) n n) (hx : a.eval x = .slice A m c) (hB : Blk w g .u8 tt xs) (hn : xs.length = n) (HR : Kd.C (Kd.int .u8) w A m ys) (hm : 0 < m) (hb : (n + m) * bytes ≤ 140737488355328) (hl : n + m ≤ 140737488355328)
    (h : ∀ v1 w1, Kd.R (Kd.int .u8) e w1 w.heap.size (fun _ => True) v1 (xs ++ ys) → w.grownBy w1 none → Kc (a.put o.dst v1) w1) :
    if Region.wanted o (yielded ops a.tmps) = true then Oper.wp P o a w Kc Q else Kc (a.put o.dst undef) w := by
  obtain ⟨v', w', h1, h2, h3⟩ := run_append_full (P := P) (ty := o.type) t e tt bytes z ht hinfo hz g n xs ys hB hn A m c HR hm hb hl
  rw [if_pos hw]
  unfold Oper.wp
  simp [execOp, ho, resolve, invoke, builtin, hs, hx, h1, Result.andThen]
  exact h v' w' h2 h3
def mH : List Int := [192, 192, 192, 192, 0, 0, 0, 0]
/-- The tables, and the half of the mask. -/
structure Tab8 (w : World) : Prop where
  t : Tab w
  m : w.rangeAt 0 0 (nums .u8 mH)
theorem range_below8 {w w' : World} {g o : Nat} {cs : List Value} (h : w.rangeAt g o cs) (hb : Below w.heap.size w w') : w'.rangeAt g o cs := fun j v hv => (hb.cell (World.block_lt_of_cell? w _ (h j v hv))).trans (h j v hv)
theorem Tab8.below {w w' : World} (h : Tab8 w) (hb : Below w.heap.size w w') : Tab8 w' := ⟨h.t.below hb, range_below8 h.m hb⟩
theorem m_cells {w : World} (h : w.rangeAt 0 0 (nums .u8 mH)) : w.cell? ⟨0, 0, none⟩ = some (.int .u8 192) ∧ w.cell? ⟨0, 1, none⟩ = some (.int .u8 192) ∧ w.cell? ⟨0, 2, none⟩ = some (.int .u8 192) ∧ w.cell? ⟨0, 3, none⟩ = some (.int .u8 192) ∧ w.cell? ⟨0, 4, none⟩ = some (.int .u8 0) ∧ w.cell? ⟨0, 5, none⟩ = some (.int .u8 0) ∧ w.cell? ⟨0, 6, none⟩ = some (.int .u8 0) ∧ w.cell? ⟨0, 7, none⟩ = some (.int .u8 0) :=
  ⟨h 0 _ rfl, h 1 _ rfl, h 2 _ rfl, h 3 _ rfl, h 4 _ rfl, h 5 _ rfl, h 6 _ rfl, h 7 _ rfl⟩
def baseL (ksn : List Int) : List Int := ((ksn.set 7 (Go.bits .and .u8 (nth ksn 7) 224)).set 8 0).set 9 0
def cntL (ksn : List Int) : Int := Go.bits .or .u64 (Go.bits .or .u64 (IntKind.u64.wrap ((IntKind.u64.wrap (Go.bits .and .u8 (nth ksn 7) 31)) * 65536)) (IntKind.u64.wrap ((IntKind.u64.wrap (nth ksn 8)) * 256))) (IntKind.u64.wrap (nth ksn 9))
theorem ten (l : List Int) (h : l.length = 10) : ∃ a b c d e f g i j k, l = [a, b, c, d, e, f, g, i, j, k] := by
  match l, h with
  | [a, b, c, d, e, f, g, i, j, k], _ => exact ⟨_, _, _, _, _, _, _, _, _, _, rfl⟩
theorem andNot_byte (x : Int) (hx : 0 ≤ x ∧ x ≤ 255) : Go.bits .andNot .u8 x 31 = Go.bits .and .u8 x 224 ∧ 0 ≤ Go.bits .and .u8 x 224 ∧ Go.bits .and .u8 x 224 ≤ 255 := by
  obtain ⟨⟨n, rfl⟩, h1⟩ : (∃ n : Nat, x = n) ∧ x ≤ 255 := ⟨⟨x.toNat, by omega⟩, hx.2⟩
  exact of_decide_eq_true ((List.all_eq_true.1 (show ((List.range 256).all fun i => decide (Go.bits .andNot .u8 (i : Int) 31 = Go.bits .and .u8 (i : Int) 224 ∧ 0 ≤ Go.bits .and .u8 (i : Int) 224 ∧ Go.bits .and .u8 (i : Int) 224 ≤ 255)) = true by decide +kernel)) n (List.mem_range.2 (by omega)))
theorem impl_counter_eq (ksn : List Int) (h : ksn.length = 10) (hb : Bytes ksn) : P.impl_counter.f ksn = some (cntL ksn, baseL ksn) := by
  obtain ⟨k0, k1, k2, k3, k4, k5, k6, k7, k8, k9, rfl⟩ := ten ksn h
  have h7 := (andNot_byte k7 (hb k7 (by simp))).1
  simp [P.impl_counter.f, cntL, baseL, rd, nth, h7]
theorem baseL_good (ksn : List Int) (h : ksn.length = 10) (hb : Bytes ksn) : (baseL ksn).length = 10 ∧ Bytes (baseL ksn) := by
  refine ⟨by simp [baseL, h], ?_⟩
  obtain ⟨k0, k1, k2, k3, k4, k5, k6, k7, k8, k9, rfl⟩ := ten ksn h
  have h7 := (andNot_byte k7 (hb k7 (by simp))).2
  intro x hx
  simp [baseL, nth] at hx
  rcases hx with rfl | rfl | rfl | rfl | rfl | rfl | rfl | rfl | rfl
  all_goals first | exact h7 | omega | exact hb _ (by simp)
def initL (bdk ksn : List Int) : List Int := tdeaL (bdk.take 8) (bdk.drop 8) ((baseL ksn).take 8) false ++ tdeaL ((maskL 0 mH bdk).take 8) ((maskL 0 mH bdk).drop 8) ((baseL ksn).take 8) false
theorem xor_byte' (x y : Int) (hx : 0 ≤ x ∧ x ≤ 255) (hy : 0 ≤ y ∧ y ≤ 255) : 0 ≤ Go.bits .xor .u8 x y ∧ Go.bits .xor .u8 x y ≤ 255 := by
  obtain ⟨⟨n, rfl⟩, h1⟩ : (∃ n : Nat, x = n) ∧ x ≤ 255 := ⟨⟨x.toNat, by omega⟩, hx.2⟩
  obtain ⟨⟨m, rfl⟩, h2⟩ : (∃ n : Nat, y = n) ∧ y ≤ 255 := ⟨⟨y.toNat, by omega⟩, hy.2⟩
  have h := (List.all_eq_true.1 (show ((List.range 256).all fun i => (List.range 256).all fun j => decide (0 ≤ Go.bits .xor .u8 (i : Int) (j : Int) ∧ Go.bits .xor .u8 (i : Int) (j : Int) ≤ 255)) = true by decide +kernel)) n (List.mem_range.2 (by omega))
  exact of_decide_eq_true ((List.all_eq_true.1 h) m (List.mem_range.2 (by omega)))
theorem maskL_bytes : ∀ (b l : List Int) (i : Nat), b.length = 8 → Bytes b → Bytes l → Bytes (maskL i b l)
  | _, [], _, _, _, _ => fun x hx => by simp [maskL] at hx
  | b, y :: l, i, h8, hb, hl => fun x hx => by
    have hx' : x = Go.bits .xor .u8 y (nth b (i % 8)) ∨ x ∈ maskL (i + 1) b l := by simpa [maskL] using hx
    rcases hx' with rfl | h
    · have : nth b (i % 8) ∈ b := by rw [nth_at _ _ (by omega)]; exact List.getElem_mem _
      exact xor_byte' _ _ (hl y (List.mem_cons_self ..)) (hb _ this)
    · exact maskL_bytes b l (i + 1) h8 hb (fun q hq => hl q (List.mem_cons_of_mem _ hq)) x h
theorem mH_bytes : Bytes mH := fun x hx => by simp [mH] at hx; omega
theorem initL_length (bdk ksn : List Int) (h : ksn.length = 10) (hb : Bytes ksn) : (initL bdk ksn).length = 16 := by
  have h8 : ((baseL ksn).take 8).length = 8 := by rw [List.length_take, (baseL_good ksn h hb).1]; rfl
  unfold initL
  rw [List.length_append, tdeaL_length _ _ _ _ h8, tdeaL_length _ _ _ _ h8]
set_option maxHeartbeats 8000000 in
theorem impl_DukptInitial.calls16 (A0 : Option Addr) (c0 : Nat) (l0 : List Int) (A1 : Option Addr) (c1 : Nat) (l1 : List Int) (w : World) (hr0 : Kd.C (Kd.int .u8) w A0 l0.length l0) (hc0 : l0.length ≤ c0) (hr1 : Kd.C (Kd.int .u8) w A1 l1.length l1) (hc1 : l1.length ≤ c1)
    (h0 : l0.length = 16) (hb0 : Bytes l0) (h1 : l1.length = 10) (hb1 : Bytes l1) (ht : Tab8 w) :
    Calls Tryd.prog 28 #[.slice A0 l0.length c0, .slice A1 l1.length c1] w fun e w' => ∃ v0_ : Value, e = .returned (v0_) ∧ Kd.R (Kd.int .u8) 5 w' w.heap.size (fun _ => True) v0_ (initL l0 l1) ∧ Below w.heap.size w w' := by
  have HT := Aside0.mk ht
  have HR0 := Aside0.mk hr0
  obtain ⟨hbl, hbb⟩ := baseL_good l1 h1 hb1
  have KC := Aside0.mk (P.impl_counter.calls A1 c1 l1 (cntL l1) (baseL l1) w hr1 hc1 (impl_counter_eq l1 h1 hb1))
  obtain ⟨n, hn⟩ : ∃ n, n = cntL l1 := ⟨_, rfl⟩
  obtain ⟨bs, hbs⟩ : ∃ b, b = baseL l1 := ⟨_, rfl⟩
  have hI : initL l0 l1 = tdeaL (l0.take 8) (l0.drop 8) (bs.take 8) false ++ tdeaL ((maskL 0 mH l0).take 8) ((maskL 0 mH l0).drop 8) (bs.take 8) false := by rw [hbs]; rfl
  rw [← hn, ← hbs] at KC
  rw [← hbs] at hbl hbb
  obtain ⟨r8, hr8⟩ : ∃ r, r = bs.take 8 := ⟨_, rfl⟩
  have h8l : r8.length = 8 := by rw [hr8, List.length_take, hbl]; rfl
  have h8b : Bytes r8 := hr8 ▸ hbb.take 8
  rw [← hr8] at hI
  have KT1 := Aside0.mk (fun (A c) (w1 : World) (hC0 : Kd.C (Kd.int .u8) w1 A0 l0.length l0) (hC : Kd.C (Kd.int .u8) w1 A r8.length r8) (hc : r8.length ≤ c) (t1 : Tab w1) => impl_Tdea.calls8b A0 c0 l0 A c r8 false w1 hC0 hc0 hC hc h0 hb0 h8l h8b t1)
  have KM := Aside0.mk (fun (w1 : World) (hC0 : Kd.C (Kd.int .u8) w1 A0 l0.length l0) => impl_masked.calls A0 c0 l0 mH w1 hC0 hc0 (by omega) rfl)
  obtain ⟨mk, hmk⟩ : ∃ m, m = maskL 0 mH l0 := ⟨_, rfl⟩
  have hmkl : mk.length = 16 := by rw [hmk, maskL_length, h0]
  have hmkb : Bytes mk := hmk ▸ maskL_bytes mH l0 0 rfl mH_bytes hb0
  rw [← hmk] at KM hI
  have KT2 := Aside0.mk (fun (A c A' c') (w1 : World) (hC0 : Kd.C (Kd.int .u8) w1 A mk.length mk) (hcm : mk.length ≤ c) (hC : Kd.C (Kd.int .u8) w1 A' r8.length r8) (hc : r8.length ≤ c') (t1 : Tab w1) => impl_Tdea.calls8b A c mk A' c' r8 false w1 hC0 hcm hC hc hmkl hmkb h8l h8b t1)
  obtain ⟨T1, hT1⟩ : ∃ t, t = tdeaL (l0.take 8) (l0.drop 8) r8 false := ⟨_, rfl⟩
  obtain ⟨T2, hT2⟩ : ∃ t, t = tdeaL (mk.take 8) (mk.drop 8) r8 false := ⟨_, rfl⟩
  have hl1 : T1.length = 8 := hT1 ▸ tdeaL_length _ _ _ _ h8l
  have hl2 : T2.length = 8 := hT2 ▸ tdeaL_length _ _ _ _ h8l
  rw [← hT1] at KT1 hI
  rw [← hT2] at KT2 hI
  rw [hI]
  have HL := Aside0.mk (And.intro hl1 (And.intro hl2 (And.intro hbl hr8)))
  have e1 : nums .u8 mH = [.int .u8 192, .int .u8 192, .int .u8 192, .int .u8 192, .int .u8 0, .int .u8 0, .int .u8 0, .int .u8 0] := rfl
  rw [e1] at KM
  have b0 : ((l0.length : Int) != 16) = false := bne_eq_false_iff_eq.mpr (by omega)
  have b1 : ((l1.length : Int) != 10) = false := bne_eq_false_iff_eq.mpr (by omega)
  clear hI hT1 hT2 hl1 hl2 hmk hmkl hmkb hr8 h8l h8b hbs hn hbl hbb hb0 hb1 ht hr0 hr1 h0 h1 e1
  go_enter Tryd.func28, Tryd.ntmps28
  go_upto_region 4 with (first | (go_at_call 52; go_must (refine KC.out.mono ?_; rintro e W ⟨v1, rfl, hR, hb⟩; obtain ⟨Ar, cr, er⟩ := Kd.R_slice hR; subst er; have HRR := Aside0.mk hR; have HB := Aside0.mk hb; clear hR hb)))
  have hbl := HL.out.2.2.1
  obtain ⟨i011, hi011, _, hsz11, _⟩ := info_parts info5
  have hcut := cut_to (P := Tryd.prog) 22 5 .i64 Tryd.underlying22 hi011 Ar bs.length cr 8 (by omega) (by omega) (Kd.R_reads' HRR.out).2.1
  have hr8 := Kd.R_take (m := (8 : Int).toNat) HRR.out (by rw [hbl]; decide)
  have h8t : (8 : Int).toNat = r8.length := by rw [HL.out.2.2.2, List.length_take, hbl]; rfl
  replace hr8 : Kd.R (Kd.int .u8) _ _ _ _ (.slice Ar (8 : Int).toNat cr) (bs.take 8) := hr8
  rw [← HL.out.2.2.2] at hr8
  rw [h8t] at hr8 hcut
  have HR8 := Aside0.mk hr8
  have HMH := Aside0.mk (HT.out.below HB.out)
  have QQ : Aside0 (Below W.heap.size W W.drew) := ⟨below_drew1 (Below.refl _ _)⟩
  obtain ⟨m0, m1, m2, m3, m4, m5, m6, m7⟩ := m_cells HMH.out.m
  clear hbl hi011 hsz11 hr8 h8t
  go_region_held3 (fun w' => w'.cell? ⟨0, 0, none⟩ = some (.int .u8 192) ∧ w'.cell? ⟨0, 1, none⟩ = some (.int .u8 192) ∧ w'.cell? ⟨0, 2, none⟩ = some (.int .u8 192) ∧ w'.cell? ⟨0, 3, none⟩ = some (.int .u8 192) ∧ w'.cell? ⟨0, 4, none⟩ = some (.int .u8 0) ∧ w'.cell? ⟨0, 5, none⟩ = some (.int .u8 0) ∧ w'.cell? ⟨0, 6, none⟩ = some (.int .u8 0) ∧ w'.cell? ⟨0, 7, none⟩ = some (.int .u8 0))
    (go_keep)
    (first
      | (go_at_call 16; with_reducible refine (KT1.out _ _ _ ?s1 ?s2 ?s3 ?s4).mono ?_; go_must ((case s1 => exact Kd.C_below HR0.out (below_then HB.out HB.out.size QQ.out)); (case s2 => exact (Kd.R_reads' (Kd.R_below HR8.out QQ.out)).2.2); (case s3 => exact (Kd.R_reads' HR8.out).2.1); (case s4 => exact (HMH.out.below QQ.out).t); rintro e w24 ⟨g24, rfl, hg24, hB24, hb⟩; have QN := Aside0.mk (below_then QQ.out QQ.out.size hb); (try (have BN := Aside0.mk (B24.out.below hb); clear B24; have B24 := BN; clear BN)); (try (have BN := Aside0.mk (B30.out.below hb); clear B30; have B30 := BN; clear BN)); (try (have MN := Aside0.mk (Kd.R_below M27.out hb); clear M27; have M27 := MN; clear MN)); clear QQ hb; have QQ := QN; clear QN; obtain ⟨m0_24, m1_24, m2_24, m3_24, m4_24, m5_24, m6_24, m7_24⟩ := m_cells (range_below8 HMH.out.m QQ.out); have B24 := Aside0.mk hB24; clear hB24 hg24))
      | (go_at_call 53; go_must (refine (KM.out _ ?s1).mono ?_; (case s1 => exact Kd.C_below HR0.out (below_then HB.out HB.out.size QQ.out)); rintro e w27 ⟨v27, rfl, hR27, hb⟩; obtain ⟨A27, c27, e27⟩ := Kd.R_slice hR27; subst e27; have QN := Aside0.mk (below_then QQ.out QQ.out.size hb); (try (have BN := Aside0.mk (B24.out.below hb); clear B24; have B24 := BN; clear BN)); (try (have BN := Aside0.mk (B30.out.below hb); clear B30; have B30 := BN; clear BN)); (try (have MN := Aside0.mk (Kd.R_below M27.out hb); clear M27; have M27 := MN; clear MN)); clear QQ hb; have QQ := QN; clear QN; obtain ⟨m0_27, m1_27, m2_27, m3_27, m4_27, m5_27, m6_27, m7_27⟩ := m_cells (range_below8 HMH.out.m QQ.out); have M27 := Aside0.mk hR27; clear hR27))
      | (go_at_call 16; with_reducible refine (KT2.out _ _ _ _ _ ?s0 ?s1 ?s2 ?s3 ?s4).mono ?_; go_must ((case s0 => exact (Kd.R_reads' M27.out).2.2); (case s1 => exact (Kd.R_reads' M27.out).2.1); (case s2 => exact (Kd.R_reads' (Kd.R_below HR8.out QQ.out)).2.2); (case s3 => exact (Kd.R_reads' HR8.out).2.1); (case s4 => exact (HMH.out.below QQ.out).t); rintro e w30 ⟨g30, rfl, hg30, hB30, hb⟩; have QN := Aside0.mk (below_then QQ.out QQ.out.size hb); (try (have BN := Aside0.mk (B24.out.below hb); clear B24; have B24 := BN; clear BN)); (try (have BN := Aside0.mk (B30.out.below hb); clear B30; have B30 := BN; clear BN)); (try (have MN := Aside0.mk (Kd.R_below M27.out hb); clear M27; have M27 := MN; clear MN)); clear QQ hb; have QQ := QN; clear QN; obtain ⟨m0_30, m1_30, m2_30, m3_30, m4_30, m5_30, m6_30, m7_30⟩ := m_cells (range_below8 HMH.out.m QQ.out); have B30 := Aside0.mk hB30; clear hB30 hg30))
      | (refine append_full_step (by rfl) (.tmp 24) (.tmp 30) 22 5 38 1 (.int .u8 0) rfl Tryd.underlying22 info5 rfl g24 8 T1 T2 _ _ _ rfl rfl B24.out HL.out.1 ?aR (by omega) (by omega) (by omega) ?_; (case aR => have hc := (Kd.R_reads' (B30.out.R (n := 8) (Nat.zero_le _) HL.out.2.1 (by omega))).2.2; rw [HL.out.2.1] at hc; exact hc); intro v1 w9 ho hg; have HV := Aside0.mk (Kd.R_lower ho (below_then HB.out HB.out.size QQ.out).size); have QN := Aside0.mk (QQ.out.grown hg QQ.out.size (fun _ h => by cases h)); clear QQ ho hg; have QQ := QN; clear QN; obtain ⟨m0_9, m1_9, m2_9, m3_9, m4_9, m5_9, m6_9, m7_9⟩ := m_cells (range_below8 HMH.out.m QQ.out)))
  all_goals go_wp2
  all_goals go_ret
  all_goals exact ⟨_, rfl, HV.out, below_then HB.out HB.out.size QQ.out⟩
set_option maxHeartbeats 1000000 in
theorem impl_DukptInitial.calls0 (A0 : Option Addr) (c0 : Nat) (n0 : Nat) (A1 : Option Addr) (c1 : Nat) (n1 : Nat) (w : World) (h : ¬ (n0 = 16 ∧ n1 = 10)) :
    Calls Tryd.prog 28 #[.slice A0 n0 c0, .slice A1 n1 c1] w fun e w' => ∃ v0_ : Value, e = .returned (v0_) ∧ Kd.R (Kd.int .u8) 5 w' w.heap.size (fun _ => True) v0_ [] ∧ Below w.heap.size w w' := by
  by_cases h0 : n0 = 16
  · have b0 : ((n0 : Int) != 16) = false := by rw [bne_eq_false_iff_eq]; omega
    have b1 : ((n1 : Int) != 10) = true := by rw [bne_iff_ne]; omega
    clear h
    go_enter Tryd.func28, Tryd.ntmps28
    go_wp2_with fail
    go_ret
    exact ⟨_, rfl, empty_R _ _ rfl, (Below.refl _ _).alloc (Nat.le_refl _) _⟩
  · have b0 : ((n0 : Int) != 16) = true := by rw [bne_iff_ne]; omega
    clear h
    go_enter Tryd.func28, Tryd.ntmps28
    go_wp2_with fail
    go_ret
    exact ⟨_, rfl, empty_R _ _ rfl, (Below.refl _ _).alloc (Nat.le_refl _) _⟩
end Go.Proofs.YtbjlpdfhjapbkaaDoor
