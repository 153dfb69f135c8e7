/- Contracts of impl.RetailMac. Conditions: bytes; the tables lie there. -/
import Derived.Test.YtbjlpdfhjapbkaaDoorChain
import Derived.Test.YtbjlpdfhjapbkaaDoorCv
namespace Go.Proofs.YtbjlpdfhjapbkaaDoor
open Go.RowKit Go.Proofs.YtbjlpdfhjapbkaaDoorW.PrintWords Go.Proofs.YtbjlpdfhjapbkaaDoorW.PrintLast Go.Proofs.YtbjlpdfhjapbkaaDoorW.PrintMore Go.Proofs.YtbjlpdfhjapbkaaDoor.D
open Go.Proofs.YtbjlpdfhjapbkaaDoor.B (xorL xorL_length)
set_option linter.unusedVariables false

def padN (n : Nat) : Nat := if n = 0 then 8 else (8 - n % 8) % 8
def padL (l : List Int) : List Int := l ++ List.replicate (padN l.length) 0
theorem padN_end (m j : Nat) (h : j ≤ padN m) (h1 : m + j ≠ 0) (h2 : (m + j) % 8 = 0) : j = padN m := by
  unfold padN at *; split at h <;> simp_all <;> omega
theorem padN_go (m j : Nat) (h : j ≤ padN m) (h1 : m + j = 0 ∨ (m + j) % 8 ≠ 0) : j < padN m := by
  unfold padN at *; split at h <;> simp_all <;> omega
theorem padN_le (m : Nat) : padN m ≤ 8 := by unfold padN; split <;> omega
theorem padL_length (l : List Int) : (padL l).length = l.length + padN l.length := by simp [padL]
theorem padL_good (l : List Int) : (padL l).length % 8 = 0 ∧ 8 ≤ (padL l).length := by
  rw [padL_length]; unfold padN; split <;> constructor <;> omega
theorem padL_bytes (l : List Int) (h : Bytes l) : Bytes (padL l) := fun x hx => by
  rcases List.mem_append.1 hx with h1 | h1
  · exact h x h1
  · rw [(List.mem_replicate.1 h1).2]; omega
def macH (k1 l1 : List Int) : List Int := (chS (fun b => desL k1 b false) zero8 (padL l1) ((padL l1).length / 8)).1
def macL (l0 l1 : List Int) : List Int := desL (l0.take 8) (desL (l0.drop 8) (macH (l0.take 8) l1) true) false
theorem macH_length (k1 l1 : List Int) : (macH k1 l1).length = 8 ∧ Bytes (macH k1 l1) := by
  have := chS_good (fun b => desL k1 b false) (fun b h => ⟨desL_length _ _ _ h, desL_bytes _ _ _ h⟩) zero8 (padL l1) zero8_length zero8_bytes ((padL l1).length / 8) (by omega)
  exact ⟨this.1, this.2.1⟩
theorem macL_length (l0 l1 : List Int) : (macL l0 l1).length = 8 := desL_length _ _ _ (desL_length _ _ _ (macH_length _ _).1)
/-- The last block that chain hands back is the last state. -/
theorem chain_last (k1 l : List Int) (h8 : l.length % 8 = 0) (h : 8 ≤ l.length) :
    (chainL (fun b => desL k1 b false) zero8 l).length = l.length ∧ (chainL (fun b => desL k1 b false) zero8 l).drop (l.length - 8) = (chS (fun b => desL k1 b false) zero8 l (l.length / 8)).1 := by
  obtain ⟨m, hm⟩ : ∃ m, l.length = 8 * (m + 1) := ⟨l.length / 8 - 1, by omega⟩
  have hg := fun k hk => chS_good (fun b => desL k1 b false) (fun b h => ⟨desL_length _ _ _ h, desL_bytes _ _ _ h⟩) zero8 l zero8_length zero8_bytes k hk
  have hd : l.length / 8 = m + 1 := by omega
  unfold chainL
  rw [hd]
  refine ⟨by rw [(hg (m + 1) (by omega)).2.2]; omega, ?_⟩
  have e : (chS (fun b => desL k1 b false) zero8 l (m + 1)).2 = (chS (fun b => desL k1 b false) zero8 l m).2 ++ (chS (fun b => desL k1 b false) zero8 l (m + 1)).1 := rfl
  rw [e, List.drop_append, (hg m (by omega)).2.2]
  have h1 : l.length - 8 = 8 * m := by omega
  rw [h1, Nat.sub_self, List.drop_zero, List.drop_of_length_le (by rw [(hg m (by omega)).2.2]; exact Nat.le_refl _), List.nil_append]
theorem range_part {w : World} {g : Nat} {t : TypeId} {l : List Int} (h : Blk w g .u8 t l) (o : Nat) (m : Nat) : w.rangeAt g o (nums .u8 ((l.drop o).take m)) := by
  intro j v hv
  refine (h.range (o + j) v ?_).trans rfl |> fun hh => by rw [Nat.zero_add] at hh; exact hh
  simp only [nums, List.getElem?_map, Option.map_eq_some_iff] at hv ⊢
  obtain ⟨q, hq, rfl⟩ := hv
  have hj : j < m := by
    rcases Nat.lt_or_ge j m with h' | h'
    · exact h'
    · rw [List.getElem?_eq_none (by rw [List.length_take]; omega)] at hq; cases hq
  rw [List.getElem?_take_of_lt hj, List.getElem?_drop] at hq
  exact ⟨q, hq, rfl⟩

set_option maxHeartbeats 8000000 in
theorem impl_RetailMac.calls8 (A0 : Option Addr) (c0 : Nat) (l0 : List Int) (A1 : Option Addr) (c1 : Nat) (l1 : List Int) (w : World) (hr0 : Kd.C (Kd.int .u8) w A0 l0.length l0) (hc0 : l0.length ≤ c0) (hr1 : Kd.C (Kd.int .u8) w A1 l1.length l1) (hc1 : l1.length ≤ c1)
    (h0 : l0.length = 16) (hb0 : Bytes l0) (h1 : l1.length ≤ 4096) (hb1 : Bytes l1) (ht : Tab w) :
    Calls Tryd.prog 17 #[.slice A0 l0.length c0, .slice A1 l1.length c1] w fun e w' => ∃ v0_ : Value, e = .returned (v0_) ∧ Kd.R (Kd.int .u8) 38 w' w.heap.size (fun _ => True) v0_ (macL l0 l1) ∧ Below w.heap.size w w' := by
  rw [h0] at hr0 hc0 ⊢
  have HT := Aside0.mk ht
  have HR0 := Aside0.mk hr0
  have HR1 := Aside0.mk hr1
  have KP := Aside0.mk (impl_pairOf.calls A0 c0 l0 w hr0 hc0 h0)
  have htl : (l0.take 8).length = 8 := by rw [List.length_take]; omega
  have hdl : (l0.drop 8).length = 8 := by rw [List.length_drop]; omega
  have hpg := padL_good l1
  have hpl := padL_length l1
  have hpn := padN_le l1.length
  have KC := Aside0.mk (fun (A : Option Addr) (c : Nat) (w1 : World) (hC : Kd.C (Kd.int .u8) w1 A (padL l1).length (padL l1)) (hc : (padL l1).length ≤ c) (t1 : Tab w1) => impl_chain_single.calls (l0.take 8) zero8 A c (padL l1) w1 htl (hb0.take 8) zero8_length zero8_bytes hC hc (padL_bytes l1 hb1) hpg.1 (by omega) t1)
  obtain ⟨hla, hlb⟩ := chain_last (l0.take 8) (padL l1) hpg.1 hpg.2
  obtain ⟨all, hall⟩ : ∃ a, a = chainL (fun b => desL (l0.take 8) b false) zero8 (padL l1) := ⟨_, rfl⟩
  rw [← hall] at KC hla hlb
  have hH := macH_length (l0.take 8) l1
  have hHe : macH (l0.take 8) l1 = (chS (fun b => desL (l0.take 8) b false) zero8 (padL l1) ((padL l1).length / 8)).1 := rfl
  rw [← hHe] at hlb
  have hM : macL l0 l1 = desL (l0.take 8) (desL (l0.drop 8) (macH (l0.take 8) l1) true) false := rfl
  obtain ⟨H, hHd⟩ : ∃ H, H = macH (l0.take 8) l1 := ⟨_, rfl⟩
  rw [← hHd] at hlb hH hM
  have KD1 := Aside0.mk (fun (w1 : World) (t1 : Tab w1) => impl_des.calls (l0.drop 8) H true w1 hdl (hb0.drop 8) hH.1 hH.2 t1)
  obtain ⟨R1, hR1⟩ : ∃ r, r = desL (l0.drop 8) H true := ⟨_, rfl⟩
  have hl1 : R1.length = 8 := hR1 ▸ desL_length _ _ _ hH.1
  have hy1 : Bytes R1 := hR1 ▸ desL_bytes _ _ _ hH.1
  have KD2 := Aside0.mk (fun (w1 : World) (t1 : Tab w1) => impl_des.calls (l0.take 8) R1 false w1 htl (hb0.take 8) hl1 hy1 t1)
  rw [← hR1] at KD1 hM
  obtain ⟨res, hres⟩ : ∃ r, r = macL l0 l1 := ⟨_, rfl⟩
  have hrl : res.length = 8 := hres ▸ macL_length l0 l1
  rw [← hM, ← hres] at KD2
  rw [← hres]
  obtain ⟨fl, hfl⟩ : ∃ f, f = padL l1 := ⟨_, rfl⟩
  rw [← hfl] at KC hla hlb hpg hpl
  have HFL : Aside0 (fl = l1 ++ List.replicate (padN l1.length) 0) := ⟨hfl⟩
  obtain ⟨u1, hu1⟩ : ∃ u, u = Value.agg (nums .u8 R1).toArray := ⟨_, rfl⟩
  rw [← hu1] at KD1 KD2
  have HN := Aside0.mk (And.intro h0 (And.intro h1 (And.intro hla (And.intro hlb (And.intro hpg (And.intro hpl hpn))))))
  have H16 := Aside0.mk h0
  have HH := Aside0.mk hH.1
  have HRL := Aside0.mk hrl
  clear hu1 hfl hres hM hR1 hl1 hy1 hHe hHd hall hr0 hr1 hb0 hb1 ht htl hdl hpg hpl hpn hla hlb hH hrl
  have hmf : ∀ (fn : Fn) (first cap : Array Value) (w : World), (Instr.makeFunc fn first cap).run Tryd.prog w = .ok (.func fn first cap) w := fun _ _ _ _ => rfl
  have b0 : decide ((l1.length : Int) > 4096) = false := decide_eq_false (by omega)
  clear h0
  go_enter Tryd.func17, Tryd.ntmps17
  go_upto_region 4 with (first
    | (go_at_call 37; go_must (refine KP.out.mono ?_; rintro e w1 ⟨rfl, hb1⟩; have HB1 := Aside0.mk hb1; have HP0 := Aside0.mk (show Blk (w1.alloc (.cells #[.int .u8 0, .int .u8 0, .int .u8 0, .int .u8 0, .int .u8 0, .int .u8 0, .int .u8 0, .int .u8 0, .int .u8 0, .int .u8 0, .int .u8 0, .int .u8 0, .int .u8 0, .int .u8 0, .int .u8 0, .int .u8 0] 41)) w1.heap.size .u8 41 (List.replicate 16 0) from blk_new w1 (.cells (nums .u8 (List.replicate 16 0)).toArray 41)); clear hb1))
    | (with_reducible refine wpList_store_blk rfl 41 (.tmp 5) (.tmp 20) rfl w1.heap.size rfl info41 rfl HP0.out (by simp) H16.out ?_))
  have HP1 := Aside0.mk (HP0.out.setRow l0)
  have HB2 : Aside0 (Below w.heap.size w ((w1.alloc (.cells #[.int .u8 0, .int .u8 0, .int .u8 0, .int .u8 0, .int .u8 0, .int .u8 0, .int .u8 0, .int .u8 0, .int .u8 0, .int .u8 0, .int .u8 0, .int .u8 0, .int .u8 0, .int .u8 0, .int .u8 0, .int .u8 0] 41)).setRow w1.heap.size (nums .u8 l0).toArray)) := ⟨below_setRow (HB1.out.alloc HB1.out.size _) HB1.out.size _⟩
  have hsz : ((w1.alloc (.cells #[.int .u8 0, .int .u8 0, .int .u8 0, .int .u8 0, .int .u8 0, .int .u8 0, .int .u8 0, .int .u8 0, .int .u8 0, .int .u8 0, .int .u8 0, .int .u8 0, .int .u8 0, .int .u8 0, .int .u8 0, .int .u8 0] 41)).setRow w1.heap.size (nums .u8 l0).toArray).heap.size = w1.heap.size + 1 := by simp
  obtain ⟨W, hW⟩ : ∃ W, W = (w1.alloc (.cells #[.int .u8 0, .int .u8 0, .int .u8 0, .int .u8 0, .int .u8 0, .int .u8 0, .int .u8 0, .int .u8 0, .int .u8 0, .int .u8 0, .int .u8 0, .int .u8 0, .int .u8 0, .int .u8 0, .int .u8 0, .int .u8 0] 41)).setRow w1.heap.size (nums .u8 l0).toArray := ⟨_, rfl⟩
  rw [← hW] at HP1 HB2 hsz ⊢
  clear hW HP0
  obtain ⟨g5, hg5⟩ : ∃ g, g = w1.heap.size := ⟨_, rfl⟩
  have hgw : w.heap.size ≤ g5 := hg5 ▸ HB1.out.size
  rw [← hg5] at HP1 hsz ⊢
  clear hg5 HB1
  have hE0 : Kd.R (Kd.int .u8) 5 (W.alloc (.cells #[] 5)) w.heap.size (fun _ => True) (.slice (some ⟨W.heap.size, 0, none⟩) 0 0) [] := Kd.R_lower (empty_R W _ rfl) HB2.out.size
  rw [hsz] at hE0
  have HE0 := Aside0.mk hE0
  have HGW := Aside0.mk hgw
  clear hE0 hgw
  go_wp2_with (first | ((with_reducible refine gate_builtin (b := .append) (xs := #[.tmp 21, .tmp 22]) rfl ?_); at_builtin; go_must (refine Kd.R_append_rows (Kd.int .u8) (w0 := w) w.heap.size rfl (.tmp 21) (.tmp 22) 22 5 (.int .u8 0) 1 rfl Tryd.underlying22 info5 rfl (by decide) (by omega) (.slice (some ⟨g5 + 1, 0, none⟩) 0 0) [] l1 _ _ _ (fun _ => True) (fun _ => False) rfl rfl ?aO ?aR (fun _ _ h => h) (fun _ h => h.elim) ?aF ?aB ?aS ?aL ?_; (case aO => exact HE0.out); (case aR => exact Kd.C_alloc (Kd.C_below HR1.out HB2.out) _); (case aF => intro k hk; trivial); (case aB => exact HB2.out.alloc HB2.out.size _); (case aS => have := HB2.out.size; simp; omega); (case aL => simp; omega); intro v1 w3 ho hb hg hat; rw [List.nil_append] at ho; have HV := Aside0.mk ho; have HB3 := Aside0.mk hb; have HP3 := Aside0.mk ((HP1.out.alloc (.cells #[] 5)).grown hg (by simp [Value.ownBlock])); clear ho hb hg hat)))
  clear HP1 HB2 HE0 hsz
  go_loopw [6] (fun v6 wr => ∃ j : Nat, j ≤ padN l1.length ∧ Aside0 (Kd.R (Kd.int .u8) 5 wr w.heap.size (fun _ => True) v6 (l1 ++ List.replicate j 0)) ∧ Aside0 (Blk wr g5 .u8 41 l0) ∧ Aside0 (Below w.heap.size w wr))
    (fun v6 _ => 4200 - sliceLen v6)
  case atStart => exact ⟨0, Nat.zero_le _, ⟨by simpa using HV.out⟩, HP3, HB3⟩
  case round =>
    obtain ⟨j, hj, HO, HP, HB⟩ := hrel
    clear HV HP3 HB3
    obtain ⟨A, c, e⟩ := Kd.R_slice HO.out
    subst e
    have hjl := padN_le l1.length
    obtain ⟨n, hn⟩ : ∃ n, n = (l1 ++ List.replicate j (0 : Int)).length := ⟨_, rfl⟩
    have hn' : n = l1.length + j := by rw [hn]; simp
    have HNE := Aside0.mk hn
    rw [← hn] at HO ⊢
    clear hn
    have HM := Aside0.mk h1
    clear h1 b0
    by_cases hgo : n = 0 ∨ n % 8 ≠ 0
    · have hlt := padN_go l1.length j hj (by rw [← hn']; exact hgo)
      have HLT := Aside0.mk (And.intro hlt (And.intro hn' (And.intro hjl HM.out)))
      clear hlt hjl hj hn'
      rcases (by omega : n = 0 ∨ (n ≠ 0 ∧ n % 8 ≠ 0)) with h | h
      · have b1 : ((n : Int) == 0) = true := beq_iff_eq.mpr (by omega)
        clear h hgo
        go_wp2_with (first | ((with_reducible refine gate_builtin (b := .append) (xs := #[.tmp 33, .tmp 34]) rfl ?_); at_builtin; go_must (refine Kd.R_append (Kd.int .u8) (w0 := w) w.heap.size rfl (.tmp 33) (.tmp 34) 22 5 (.int .u8 0) 1 rfl Tryd.underlying22 info5 rfl (by decide) (by omega) (.slice A n c) (l1 ++ List.replicate j 0) 0 [.int .u8 0] (fun _ => True) (fun _ => False) rfl rfl ?aP (fun _ hk => hk.elim) ?aF ?aO ?aB ?aS ?aL ?_; (case aP => exact rfl); (case aF => intro k hk; trivial); (case aO => exact HO.out); (case aB => exact HB.out); (case aS => exact HB.out.size); (case aL => rw [← HNE.out]; have := HLT.out; omega); intro v1 w4 ho hb hg hat; have HV := Aside0.mk ho; have HW := Aside0.mk hb; have HP4 := Aside0.mk (HP.out.grown hg (Kd.R_ne HO.out HP.out (by decide))); clear ho hb hg hat)))
        go_roundw
        case rel => exact ⟨j + 1, HLT.out.1, ⟨by rw [List.replicate_succ', ← List.append_assoc]; exact HV.out⟩, HP4, HW⟩
        case measure =>
          obtain ⟨Av, cv, ev⟩ := Kd.R_slice HV.out
          have hvl : (l1 ++ List.replicate j (0 : Int) ++ [0]).length = n + 1 := by rw [List.length_append, ← HNE.out]; rfl
          rw [hvl] at ev
          subst ev
          show 4200 - (n + 1) < 4200 - n
          have := HLT.out
          omega
      · have b1 : ((n : Int) == 0) = false := beq_eq_false_iff_ne.mpr (by omega)
        have b2 : (((n : Int) % 8) == 0) = false := beq_eq_false_iff_ne.mpr (by omega)
        have b3 : (((n : Int) % 8) != 0) = true := bne_iff_ne.mpr (by omega)
        clear h hgo
        go_wp2_with (first | ((with_reducible refine gate_builtin (b := .append) (xs := #[.tmp 33, .tmp 34]) rfl ?_); at_builtin; go_must (refine Kd.R_append (Kd.int .u8) (w0 := w) w.heap.size rfl (.tmp 33) (.tmp 34) 22 5 (.int .u8 0) 1 rfl Tryd.underlying22 info5 rfl (by decide) (by omega) (.slice A n c) (l1 ++ List.replicate j 0) 0 [.int .u8 0] (fun _ => True) (fun _ => False) rfl rfl ?aP (fun _ hk => hk.elim) ?aF ?aO ?aB ?aS ?aL ?_; (case aP => exact rfl); (case aF => intro k hk; trivial); (case aO => exact HO.out); (case aB => exact HB.out); (case aS => exact HB.out.size); (case aL => rw [← HNE.out]; have := HLT.out; omega); intro v1 w4 ho hb hg hat; have HV := Aside0.mk ho; have HW := Aside0.mk hb; have HP4 := Aside0.mk (HP.out.grown hg (Kd.R_ne HO.out HP.out (by decide))); clear ho hb hg hat)))
        go_roundw
        case rel => exact ⟨j + 1, HLT.out.1, ⟨by rw [List.replicate_succ', ← List.append_assoc]; exact HV.out⟩, HP4, HW⟩
        case measure =>
          obtain ⟨Av, cv, ev⟩ := Kd.R_slice HV.out
          have hvl : (l1 ++ List.replicate j (0 : Int) ++ [0]).length = n + 1 := by rw [List.length_append, ← HNE.out]; rfl
          rw [hvl] at ev
          subst ev
          show 4200 - (n + 1) < 4200 - n
          have := HLT.out
          omega
    · obtain ⟨hz1, hz2⟩ : n ≠ 0 ∧ n % 8 = 0 := by omega
      have hje := padN_end l1.length j hj (by omega) (by omega)
      have hfe : l1 ++ List.replicate j 0 = fl := by rw [hje]; exact HFL.out.symm
      rw [hfe] at HO HNE
      have hnn := HNE.out
      subst hnn
      have b1 : ((fl.length : Int) == 0) = false := beq_eq_false_iff_ne.mpr (by omega)
      have b2 : (((fl.length : Int) % 8) == 0) = true := beq_iff_eq.mpr (by omega)
      have b3 : (((fl.length : Int) % 8) != 0) = false := bne_eq_false_iff_eq.mpr (by omega)
      have hla := HN.out.2.2.1
      have hlb := HN.out.2.2.2.1
      have hpg := HN.out.2.2.2.2.1
      have hfb : fl.length ≤ 4200 := by have := HM.out; omega
      have HRg : Aside0 (wr.rangeAt g5 0 (nums .u8 (l0.take 8))) := ⟨by have := range_part HP.out 0 8; rwa [List.drop_zero] at this⟩
      have HTL : Aside0 ((nums .u8 (l0.take 8)).length = 8) := ⟨by rw [nums_length, List.length_take]; have := H16.out; omega⟩
      have HLA := Aside0.mk (And.intro hla (And.intro hlb (And.intro hpg.2 hfb)))
      clear hla hlb hpg hfb hfe hje hj hjl hn' hz1 hz2 hgo
      go_upto_region 8 with (first
        | (with_reducible refine wpList_load_mid rfl 38 (.tmp 38) rfl g5 0 rfl (nums .u8 (l0.take 8)) _ HRg.out Tryd.underlying38 rfl (by rw [info8, HTL.out]) ?_)
        | (go_at_call 39; go_must (refine (KC.out _ _ _ ?s1 ?s2 ?s3).mono ?_; (case s1 => exact (Kd.R_reads' HO.out).2.2); (case s2 => exact (Kd.R_reads' HO.out).2.1); (case s3 => exact HT.out.below HB.out); rintro e w5 ⟨v5, rfl, hR5, hb5⟩; obtain ⟨A5, c5, e5⟩ := Kd.R_slice hR5; subst e5; have HR5 := Aside0.mk hR5; have P5 := Aside0.mk (HP.out.below hb5); have HB5 := Aside0.mk (below_step HB.out hb5); clear hR5 hb5)))
      clear b1 b2 b3 HRg
      have hla := HLA.out.1
      have hlb := HLA.out.2.1
      have h88 := HLA.out.2.2.1
      have hmx := HLA.out.2.2.2
      obtain ⟨i0_, hi0_, _, hsz_, _⟩ := info_parts info5
      obtain ⟨A6, hcut, hA6, hC6⟩ := print_drop_of (P := Tryd.prog) (Value.int .u8) 0 22 5 .i64 Tryd.underlying22 hi0_ hsz_ A5 c5 all ((all.length : Int) - 8) (by omega) (by omega) (Kd.R_reads' HR5.out).2.1
      have HA6 := Kd.C_of_reads (h1 := fun _ => rfl) (hA6 _ (Kd.reads_of_C (Kd.R_reads' HR5.out).2.2))
      have hj8 : ((all.length : Int) - 8).toNat = fl.length - 8 := by omega
      rw [hj8, hlb] at hcut HA6 hC6
      rw [HH.out] at hcut HA6 hC6
      have hwr : IntKind.i64.wrap ((all.length : Int) - 8) = (all.length : Int) - 8 := by rw [IntKind.wrap_i64]; omega
      obtain ⟨d0, d1, d2, d3, d4, d5, d6, d7, rfl⟩ := eight H HH.out
      obtain ⟨ad, rfl, y0, y1, y2, y3, y4, y5, y6, y7⟩ := cells8 HA6
      have nn1 := World.new_ne w5 ad y0
      have hta := fun (c : Nat) (w1 : World) => array_at (P := Tryd.prog) (t := 38) Tryd.underlying38 (Nat.le_refl 8) (some ad) c w1
      have e88 : all.length = fl.length := hla
      clear hla hlb h88 hmx hi0_ hsz_ hA6 HA6 hC6 hj8 e88
      go_cut [8] from 42 (fun s8 wc => ∃ g8 : Nat, s8 = .pointer (some ⟨g8, 0, none⟩) ∧ Aside0 (Blk wc g8 .u8 38 [d0, d1, d2, d3, d4, d5, d6, d7]) ∧ Aside0 (Blk wc g5 .u8 41 l0) ∧ Aside0 (Below w.heap.size w wc))
      case first =>
        go_wp2
        go_meet
        case rel => exact ⟨_, rfl, ⟨blk_of8 w5 _ _ _ _ _ _ _ _⟩, ⟨P5.out.alloc _⟩, ⟨HB5.out.alloc HB5.out.size _⟩⟩
      case rest =>
        obtain ⟨wq, rfl⟩ : ∃ x, x = wc := ⟨_, rfl⟩
        obtain ⟨g8, rfl, P8, P5', HB8⟩ := hcut
        clear P5 HB5 hcut HP HO HB y0 y1 y2 y3 y4 y5 y6 y7 nn1 hta
        have P5 := P5'
        clear P5'
        obtain ⟨a0, a1, a2, a3, a4, a5, a6, a7, b0, b1, b2, b3, b4, b5, b6, b7, rfl⟩ := sixteen l0 H16.out
        obtain ⟨r0, r1, r2, r3, r4, r5, r6, r7, rfl⟩ := eight res HRL.out
        simp only [nums, List.take_succ_cons, List.take_zero, List.drop_succ_cons, List.drop_zero, List.map_cons, List.map_nil] at KD1 KD2
        obtain ⟨x0, x1, x2, x3, x4, x5, x6, x7, x8, x9, x10, x11, x12, x13, x14, x15, y0, y1, y2, y3, y4, y5, y6, y7⟩ := pb_cells P5.out P8.out
        have nn5 := World.new_ne wq _ x0
        have nn8 := World.new_ne wq _ y0
        go_upto_region 9 with fail
        go_cut [9] from 49 (fun s9 wc => ∃ g9 : Nat, s9 = .pointer (some ⟨g9, 0, none⟩) ∧ Aside0 (w.heap.size ≤ g9 ∧ Blk wc g9 .u8 38 [r0, r1, r2, r3, r4, r5, r6, r7]) ∧ Aside0 (Below w.heap.size w wc))
        case first =>
          go_region_held3 (fun w' => w'.cell? ⟨g5, 0, none⟩ = some (.int .u8 a0) ∧ w'.cell? ⟨g5, 1, none⟩ = some (.int .u8 a1) ∧ w'.cell? ⟨g5, 2, none⟩ = some (.int .u8 a2) ∧ w'.cell? ⟨g5, 3, none⟩ = some (.int .u8 a3) ∧ w'.cell? ⟨g5, 4, none⟩ = some (.int .u8 a4) ∧ w'.cell? ⟨g5, 5, none⟩ = some (.int .u8 a5) ∧ w'.cell? ⟨g5, 6, none⟩ = some (.int .u8 a6) ∧ w'.cell? ⟨g5, 7, none⟩ = some (.int .u8 a7) ∧ w'.cell? ⟨g5, 8, none⟩ = some (.int .u8 b0) ∧ w'.cell? ⟨g5, 9, none⟩ = some (.int .u8 b1) ∧ w'.cell? ⟨g5, 10, none⟩ = some (.int .u8 b2) ∧ w'.cell? ⟨g5, 11, none⟩ = some (.int .u8 b3) ∧ w'.cell? ⟨g5, 12, none⟩ = some (.int .u8 b4) ∧ w'.cell? ⟨g5, 13, none⟩ = some (.int .u8 b5) ∧ w'.cell? ⟨g5, 14, none⟩ = some (.int .u8 b6) ∧ w'.cell? ⟨g5, 15, none⟩ = some (.int .u8 b7) ∧ w'.cell? ⟨g8, 0, none⟩ = some (.int .u8 d0) ∧ w'.cell? ⟨g8, 1, none⟩ = some (.int .u8 d1) ∧ w'.cell? ⟨g8, 2, none⟩ = some (.int .u8 d2) ∧ w'.cell? ⟨g8, 3, none⟩ = some (.int .u8 d3) ∧ w'.cell? ⟨g8, 4, none⟩ = some (.int .u8 d4) ∧ w'.cell? ⟨g8, 5, none⟩ = some (.int .u8 d5) ∧ w'.cell? ⟨g8, 6, none⟩ = some (.int .u8 d6) ∧ w'.cell? ⟨g8, 7, none⟩ = some (.int .u8 d7))
            (go_keep)
            (first
              | (go_at_call 36; with_reducible refine (KD1.out _ ?tt).mono ?_; go_must ((case tt => exact HT.out.below (by repeat (first | exact HB8.out | apply below_drew1 | apply below_alloc))); rintro e w6 ⟨rfl, hb6⟩; (first | (have HZ := Aside0.mk (blk8_new wq (below_then (below_drew1 (Below.refl _ _)) (Nat.le_refl _) hb6)); have Q6 := Aside0.mk (below_then (below_drew1 (below_alloc (Below.refl wq.heap.size wq) (.cells #[.int .u8 0, .int .u8 0, .int .u8 0, .int .u8 0, .int .u8 0, .int .u8 0, .int .u8 0, .int .u8 0] 38))) (by simp) hb6); clear hb6) | (have Q6 := Aside0.mk (below_then (below_drew1 (Below.refl wq.heap.size wq)) (Nat.le_refl _) hb6); clear hb6)); obtain ⟨x0_6, x1_6, x2_6, x3_6, x4_6, x5_6, x6_6, x7_6, x8_6, x9_6, x10_6, x11_6, x12_6, x13_6, x14_6, x15_6, y0_6, y1_6, y2_6, y3_6, y4_6, y5_6, y6_6, y7_6⟩ := pb_cells (P5.out.below Q6.out) (P8.out.below Q6.out); have nn5' := World.new_ne w6 _ x0_6; have nn8' := World.new_ne w6 _ y0_6))
              | (go_at_call 36; with_reducible refine (KD2.out _ ?tt).mono ?_; go_must ((case tt => exact HT.out.below (by repeat (first | exact below_step HB8.out Q6.out | apply below_alloc))); rintro e w7 ⟨rfl, hb7⟩; (first | (have HZ2 := Aside0.mk (HZ.out.below hb7); have HZ3 := HZ2; have Q7 := Aside0.mk (below_step Q6.out hb7); clear hb7 HZ) | (have HZ2 := Aside0.mk (blk8_new w6 hb7); have HZ4 := HZ2; have Q7 := Aside0.mk (below_then (below_alloc Q6.out (.cells #[.int .u8 0, .int .u8 0, .int .u8 0, .int .u8 0, .int .u8 0, .int .u8 0, .int .u8 0, .int .u8 0] 38)) (by have := Q6.out.size; simp; omega) hb7); clear hb7) | (have HZ2 := Aside0.mk (blk8_new w7 (Below.refl _ _)); have Q7 := Aside0.mk (below_step Q6.out hb7); clear hb7)); have hz := blk8 HZ2.out; obtain ⟨⟨z0, z1, z2, z3, z4, z5, z6, z7⟩, f0, f1, f2, f3, f4, f5, f6, f7⟩ := hz; obtain ⟨x0_7, x1_7, x2_7, x3_7, x4_7, x5_7, x6_7, x7_7, x8_7, x9_7, x10_7, x11_7, x12_7, x13_7, x14_7, x15_7, y0_7, y1_7, y2_7, y3_7, y4_7, y5_7, y6_7, y7_7⟩ := pb_cells (P5.out.below Q7.out) (P8.out.below Q7.out); have nn5'' := World.new_ne w7 _ x0_7; have nn8'' := World.new_ne w7 _ y0_7)))
          all_goals go_wp2
          all_goals go_meet
          all_goals (case rel =>
            refine ⟨_, rfl, ?_, ?_⟩
            · first | with_reducible exact ⟨⟨HB8.out.size, blk_set8 HZ3.out _ _ _ _ _ _ _ _⟩⟩ | with_reducible exact ⟨⟨(below_step HB8.out Q6.out).size, blk_set8 HZ4.out _ _ _ _ _ _ _ _⟩⟩ | with_reducible exact ⟨⟨(below_step HB8.out Q7.out).size, blk_of8 w7 _ _ _ _ _ _ _ _⟩⟩
            · first | with_reducible exact ⟨below_set8 (below_step HB8.out Q7.out) HB8.out.size _ _ _ _ _ _ _ _⟩ | with_reducible exact ⟨below_set8 (below_step HB8.out Q7.out) (below_step HB8.out Q6.out).size _ _ _ _ _ _ _ _⟩ | with_reducible exact ⟨(below_step HB8.out Q7.out).alloc (below_step HB8.out Q7.out).size _⟩)
        case rest =>
          obtain ⟨g9, rfl, H1, H2⟩ := hcut
          go_wp2
          go_ret
          exact ⟨_, rfl, H1.out.2.R H1.out.1 rfl (by omega), H2.out⟩
set_option maxHeartbeats 1000000 in
theorem impl_RetailMac.calls0 (A0 : Option Addr) (c0 : Nat) (n0 : Nat) (A1 : Option Addr) (c1 : Nat) (n1 : Nat) (w : World) (h : ¬ (n0 = 16 ∧ n1 ≤ 4096)) :
    Calls Tryd.prog 17 #[.slice A0 n0 c0, .slice A1 n1 c1] w fun e w' => ∃ v0_ : Value, e = .returned (v0_) ∧ Kd.R (Kd.int .u8) 5 w' w.heap.size (fun _ => True) v0_ [] ∧ Below w.heap.size w w' := by
  by_cases h0 : n0 = 16
  · have b0 : ((n0 : Int) != 16) = false := by rw [bne_eq_false_iff_eq]; omega
    have b1 : decide ((n1 : Int) > 4096) = true := decide_eq_true (by omega)
    clear h
    go_enter Tryd.func17, Tryd.ntmps17
    go_wp2_with fail
    go_ret
    exact ⟨_, rfl, empty_R _ _ rfl, (Below.refl _ _).alloc (Nat.le_refl _) _⟩
  · have b0 : ((n0 : Int) != 16) = true := by rw [bne_iff_ne]; omega
    clear h
    go_enter Tryd.func17, Tryd.ntmps17
    go_wp2_with fail
    go_ret
    exact ⟨_, rfl, empty_R _ _ rfl, (Below.refl _ _).alloc (Nat.le_refl _) _⟩
end Go.Proofs.YtbjlpdfhjapbkaaDoor
