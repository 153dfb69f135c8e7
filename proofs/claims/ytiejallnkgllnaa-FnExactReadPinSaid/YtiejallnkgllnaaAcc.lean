/- Contract of spec.l4Account: the account's field of a PAN as digits. Condition: the PAN has 13 to 2^30 bytes. -/
import Derived.Test.YtiejallnkgllnaaMp3
import Derived.Lib.ConvBytes
namespace Go.Proofs.Ytiejallnkgllnaa
open Go.RowKit Go.Proofs.YtiejallnkgllnaaW.PrintWords Go.Proofs.YtiejallnkgllnaaW.PrintLast Go.Proofs.YtiejallnkgllnaaW.PrintMore Go.Proofs.Ytiejallnkgllnaa.D
set_option linter.unusedVariables false
/-- A row that a string was turned into. -/
def CV (w : World) (g : Nat) (L : List Int) : Prop := g < w.heap.size ∧ ∀ j, j < L.length → w.cell? ⟨g, j, none⟩ = some (.int .u8 (nth L j))
theorem CV.new (w : World) (s : ByteArray) : CV (Lib.bytesWorld w 5 s) w.heap.size (bI s) := by
  refine ⟨by rw [Lib.bytesWorld_size]; omega, fun j hj => ?_⟩
  rw [bI_length] at hj
  rw [Lib.bytesWorld_cell w _ s j hj, nth_at _ _ (by rw [bI_length]; exact hj)]
  simp [bI, List.getD_eq_getElem?_getD, hj]
theorem CV.alloc {w : World} {g : Nat} {L : List Int} (h : CV w g L) (o : Obj) : CV (w.alloc o) g L := by
  refine ⟨by simp; have := h.1; omega, fun j hj => ?_⟩
  rw [World.cell?_of_block (w' := w.alloc o) (w := w) (Below.heap_alloc w o g h.1)]
  exact h.2 j hj
theorem CV.below {w w1 : World} {g : Nat} {L : List Int} (h : CV w g L) (hb : Below w.heap.size w w1) : CV w1 g L := by
  refine ⟨Nat.lt_of_lt_of_le h.1 hb.size, fun j hj => ?_⟩
  rw [World.cell?_of_block (w' := w1) (w := w) (hb.block g h.1)]
  exact h.2 j hj
theorem CV.grown {w w1 : World} {g : Nat} {L : List Int} (h : CV w g L) {row : Option Nat} (hg : w.grownBy w1 row) (hne : some g ≠ row) : CV w1 g L := by
  refine ⟨Nat.lt_of_lt_of_le h.1 hg.size, fun j hj => ?_⟩
  rw [World.cell?_of_block (w' := w1) (w := w) (hg.block g h.1 hne)]
  exact h.2 j hj
theorem bytesWorld_below {B : Nat} {w w1 : World} (e : TypeId) (s : ByteArray) (h : Below B w w1) (hB : B ≤ w1.heap.size) : Below B w (Lib.bytesWorld w1 e s) := by
  refine h.trans ⟨rfl, rfl, rfl, by rw [Lib.bytesWorld_size]; omega, fun k hk => Lib.bytesWorld_at_old w1 e s k (by omega)⟩
theorem conv_run (w : World) (s : ByteArray) : (convert 9 29 (.string s)).run Try.prog w = .ok (.slice (some ⟨w.heap.size, 0, none⟩) s.size (grownCap w s.size 0 5)) (Lib.bytesWorld w 5 s) :=
  Lib.run_convert_string_bytes w 9 29 5 s Try.underlying9 Try.underlying29 Try.underlying5
def accS (s : ByteArray) : List Int := [0, 0, 0, 0] ++ (((bI s).drop (s.size - 13)).take 12).map fun x => (x - 48) % 256

set_option maxHeartbeats 2000000 in
set_option maxRecDepth 100000 in
theorem spec_l4Account.at (s : ByteArray) (w : World) (h13 : 13 ≤ s.size) (hm : s.size ≤ 1000000000) :
    Calls Try.prog 46 #[.string s] w fun e w' => ∃ v : Value, e = .returned v ∧ Kd.R (Kd.int .u8) 5 w' w.heap.size (fun _ => True) v (accS s) ∧ Below w.heap.size w w' := by
  have hcv := fun (W : World) => conv_run W (s.extract (s.size - 13) (s.size - 1))
  obtain ⟨T, hT⟩ : ∃ T, T = s.extract (s.size - 13) (s.size - 1) := ⟨_, rfl⟩
  have HT := Aside0.mk hT
  have hTz : T.size = 12 := by rw [hT, ByteArray.size_extract]; omega
  rw [← hT] at hcv
  have hex : s.extract (s.size - 13) (s.size - 1) = T := hT.symm
  clear hT
  go_enter Try.func46, Try.ntmps46
  go_wp2_with fail
  have hacc : Aside0 (accS s = [0, 0, 0, 0] ++ (bI T).map fun x => (x - 48) % 256) := ⟨by rw [HT.out, bI_extract, show s.size - 1 - (s.size - 13) = 12 by omega]; rfl⟩
  have hLl : Aside0 ((bI T).length = 12) := ⟨by rw [bI_length]; exact hTz⟩
  have HCV := Aside0.mk (CV.new (w.alloc (.cells #[.int .u8 0, .int .u8 0, .int .u8 0, .int .u8 0] 5)) T)
  have HB0 : Aside0 (Below w.heap.size w (w.alloc (.cells #[.int .u8 0, .int .u8 0, .int .u8 0, .int .u8 0] 5))) := ⟨(Below.refl _ _).alloc (Nat.le_refl _) _⟩
  have HB := Aside0.mk (bytesWorld_below 5 T HB0.out HB0.out.size)
  have HR0 : Aside0 (Blk (w.alloc (.cells #[.int .u8 0, .int .u8 0, .int .u8 0, .int .u8 0] 5)) w.heap.size .u8 5 [0, 0, 0, 0]) := ⟨blk_new w _⟩
  have HR : Aside0 (Kd.R (Kd.int .u8) 5 (Lib.bytesWorld (w.alloc (.cells #[.int .u8 0, .int .u8 0, .int .u8 0, .int .u8 0] 5)) 5 T) w.heap.size (fun k => k ≠ w.heap.size + 1) (.slice (some ⟨w.heap.size, 0, none⟩) 4 4) [0, 0, 0, 0]) :=
    ⟨Kd.R_reok rfl ((HR0.out.below (bytesWorld_below 5 T (Below.refl _ _) (Nat.le_refl _))).R (n := 4) (Nat.le_refl _) rfl (by omega)) (fun k hk => by simp [Value.ownBlock] at hk; omega)⟩
  rw [show (w.alloc (.cells #[.int .u8 0, .int .u8 0, .int .u8 0, .int .u8 0] 5)).heap.size = w.heap.size + 1 by simp] at HCV
  generalize Lib.bytesWorld (w.alloc (.cells #[.int .u8 0, .int .u8 0, .int .u8 0, .int .u8 0] 5)) 5 T = W at HCV HB HR ⊢
  obtain ⟨g, hg⟩ : ∃ g, g = w.heap.size + 1 := ⟨_, rfl⟩
  obtain ⟨C, hC⟩ : ∃ C, C = grownCap (w.alloc (.cells #[.int .u8 0, .int .u8 0, .int .u8 0, .int .u8 0] 5)) 12 0 5 := ⟨_, rfl⟩
  rw [← hg] at HCV HR ⊢
  rw [← hC]
  clear hg hC HB0 HR0 hcv hex
  obtain ⟨L, hL⟩ : ∃ L, L = bI T := ⟨_, rfl⟩
  rw [← hL] at HCV hacc hLl
  have hLl' := hLl.out
  clear hL
  go_loopw [3, 5, 17] (fun v3 v5 v17 wr => ∃ k : Nat, k ≤ 12 ∧ v17 = .int .i64 k ∧ Aside0 (Kd.R (Kd.int .u8) 5 wr w.heap.size (fun k => k ≠ g) v3 ([0, 0, 0, 0] ++ (L.take k).map fun x => (x - 48) % 256)) ∧ Aside0 (CV wr g L) ∧ Aside0 (Below w.heap.size w wr))
    (fun _ _ v17 _ => 12 - (intOf v17).toNat)
  case atStart => exact ⟨0, by omega, rfl, HR, HCV, HB⟩
  case round =>
    obtain ⟨k, hk, rfl, HO, HC, HB⟩ := hrel
    by_cases hlt : k < 12
    · have hcell := HC.out.2 k (by omega)
      have HT1 := Aside0.mk (take_nth L k (by omega))
      have hgs := HC.out.1
      obtain ⟨x, hx⟩ : ∃ x, x = nth L k := ⟨_, rfl⟩
      rw [← hx] at hcell HT1
      clear hx hLl'
      obtain ⟨ac, hac⟩ : ∃ ac, ac = [0, 0, 0, 0] ++ (L.take k).map fun x => (x - 48) % 256 := ⟨_, rfl⟩
      rw [← hac] at HO
      have HAC := Aside0.mk hac
      have HLn : Aside0 ((ac.length + 1) * 1 ≤ 140737488355328) := ⟨by rw [hac]; simp; omega⟩
      clear hac
      go_wp2_with (first | ((with_reducible refine gate_builtin (b := .append) (xs := #[.tmp 21, .tmp 24]) rfl ?_); at_builtin; refine Kd.R_append (Kd.int .u8) (w0 := w) w.heap.size rfl (.tmp 21) (.tmp 24) 29 5 (.int .u8 0) 1 rfl Try.underlying29 info5 rfl (by decide) (by omega) u3 ac ((x - 48) % 256) [.int .u8 ((x - 48) % 256)] (fun k => k ≠ g) (fun _ => False) rfl rfl ?aP (fun _ hk => hk.elim) ?aF ?aO ?aB ?aS ?aL ?_; (case aP => exact rfl); (case aB => exact HB.out); (case aF => exact (fun _ hk => by omega)); (case aO => exact HO.out); (case aS => exact HB.out.size); (case aL => exact HLn.out); intro v1 w1 ho hb hg1 hat; have HO1 := Aside0.mk ho; have HB1 := Aside0.mk hb; have HG1 := Aside0.mk hg1; clear ho hb hg1 hat))
      go_roundw
      case rel => exact ⟨k + 1, by omega, by go_num, ⟨by rw [HT1.out, List.map_append, ← List.append_assoc, ← HAC.out]; exact HO1.out⟩, ⟨HC.out.grown HG1.out (fun h => HO.out.1 _ h.symm rfl)⟩, HB1⟩
      case measure => simp [intOf]; omega
    · obtain rfl : k = 12 := by omega
      rw [List.take_of_length_le (by omega), ← hacc.out] at HO
      go_wp2
      go_ret
      exact ⟨_, rfl, Kd.R_mono HO.out (fun _ _ => trivial), HB.out⟩
end Go.Proofs.Ytiejallnkgllnaa
