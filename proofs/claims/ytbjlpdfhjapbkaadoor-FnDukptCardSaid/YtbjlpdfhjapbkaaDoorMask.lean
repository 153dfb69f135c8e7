/- Contract of impl.masked: a list of bytes, each XORed with the byte at its place modulo 8 of a block of 8. Conditions: the argument reads as a list of bytes, the block has 8. -/
import Derived.Test.YtbjlpdfhjapbkaaDoorFound
namespace Go.Proofs.YtbjlpdfhjapbkaaDoor
open Go.RowKit Go.Proofs.YtbjlpdfhjapbkaaDoorW.PrintWords Go.Proofs.YtbjlpdfhjapbkaaDoorW.PrintLast Go.Proofs.YtbjlpdfhjapbkaaDoorW.PrintMore
set_option linter.unusedVariables false

def maskL (i : Nat) (b : List Int) : List Int → List Int
  | [] => []
  | x :: xs => Go.bits .xor .u8 x (nth b (i % 8)) :: maskL (i + 1) b xs
theorem maskL_length (b : List Int) (l : List Int) (i : Nat) : (maskL i b l).length = l.length := by
  induction l generalizing i with
  | nil => rfl
  | cons x xs ih => simp [maskL, ih]
theorem maskL_append (b : List Int) (xs ys : List Int) (i : Nat) : maskL i b (xs ++ ys) = maskL i b xs ++ maskL (i + xs.length) b ys := by
  induction xs generalizing i with
  | nil => simp [maskL]
  | cons x xs ih => simp [maskL, ih, Nat.add_assoc, Nat.add_comm 1]
theorem maskL_step (b l : List Int) (i : Nat) (h : i < l.length) : maskL 0 b (l.take (i + 1)) = maskL 0 b (l.take i) ++ [Go.bits .xor .u8 (rd l (i : Int)) (nth b (i % 8))] := by
  rw [List.take_succ_eq_append_getElem h, maskL_append]
  simp [maskL, rd, List.getD_eq_getElem?_getD, h, Nat.min_eq_left (Nat.le_of_lt h)]

set_option maxHeartbeats 1000000 in
theorem impl_masked.calls (A0 : Option Addr) (c0 : Nat) (l0 b : List Int) (w : World) (hr0 : Kd.C (Kd.int .u8) w A0 l0.length l0) (hc0 : l0.length ≤ c0) (hl : l0.length ≤ 1048576) (hb8 : b.length = 8) :
    Calls Tryd.prog 53 #[.slice A0 l0.length c0, .agg (nums .u8 b).toArray] w fun e w' => ∃ v0_ : Value, e = .returned (v0_) ∧ Kd.R (Kd.int .u8) 5 w' w.heap.size (fun _ => True) v0_ (maskL 0 b l0) ∧ Below w.heap.size w w' := by
  have HR0 := Aside0.mk hr0
  have H8 := Aside0.mk hb8
  clear hr0 hb8
  obtain ⟨n, hn⟩ : ∃ n, n = l0.length := ⟨_, rfl⟩
  rw [← hn] at hc0 hl ⊢
  have Hn := Aside0.mk hn
  clear hn
  go_enter Tryd.func53, Tryd.ntmps53
  go_wp2_with fail
  go_loopw [5, 11] (fun v5 v11 wr => ∃ i : Nat, i ≤ n ∧ v11 = .int .i64 i ∧ Aside0 (Kd.R (Kd.int .u8) 5 wr w.heap.size (fun k => k ≠ w.heap.size) v5 (maskL 0 b (l0.take i))) ∧ Aside0 (Below w.heap.size w wr) ∧ Aside0 (Blk wr w.heap.size .u8 38 b))
    (fun _ v11 _ => n - (intOf v11).toNat)
  case atStart =>
    refine ⟨0, Nat.zero_le _, rfl, ⟨?_⟩, ⟨((Below.refl _ _).alloc (Nat.le_refl _) _).alloc (by simp) _⟩, ⟨(Blk.new w .u8 38 b).alloc _⟩⟩
    have h0 : Blk ((w.alloc (Obj.cells (nums IntKind.u8 b).toArray 38)).alloc (Obj.cells #[] 5)) (w.heap.size + 1) .u8 5 [] := by
      have := Blk.new (w.alloc (Obj.cells (nums IntKind.u8 b).toArray 38)) .u8 5 []
      simpa [nums] using this
    refine Kd.R_mono (Kd.R_reok rfl (h0.R (base := w.heap.size) (n := 0) (by omega) rfl (by omega)) (ok := fun k => k ≠ w.heap.size) ?_) (fun _ hk => hk)
    intro k hk
    have : w.heap.size + 1 = k := by simpa [Value.ownBlock] using hk
    omega
  case round =>
    obtain ⟨i, hi, rfl, HO, HB, HM⟩ := hrel
    by_cases hlt : i < n
    · obtain ⟨ad0, e0, hx0⟩ := Kd.at_int HR0.out (i : Int) (by omega) (by have := Hn.out; omega)
      cases e0
      rw [Int.toNat_natCast] at hx0
      replace hx0 := (HB.out.cell (World.block_lt_of_cell? w _ hx0)).trans hx0
      have hx1 : wr.cell? ⟨w.heap.size, i % 8, none⟩ = some (.int .u8 (nth b (i % 8))) := HM.out.cell (i % 8) (by rw [H8.out]; omega)
      have hst := maskL_step b l0 i (by have := Hn.out; omega)
      have HS := Aside0.mk hst
      clear hst
      have hb0 := HB.out.size
      have hm0 := HM.out.lt
      clear hc0
      go_wp2_with ((with_reducible refine gate_builtin (b := .append) (xs := #[.tmp 16, .tmp 23]) rfl ?_); at_builtin; refine Kd.R_append (Kd.int .u8) (w0 := w) w.heap.size rfl (.tmp 16) (.tmp 23) 22 5 (.int .u8 0) 1 rfl Tryd.underlying22 info5 rfl (by decide) (by omega) u5 (maskL 0 b (l0.take i)) (Go.bits .xor .u8 (rd l0 (i : Int)) (nth b (i % 8))) [.int .u8 (Go.bits .xor .u8 (rd l0 (i : Int)) (nth b (i % 8)))] (fun k => k ≠ w.heap.size) (fun _ => False) rfl rfl ?aP (fun _ hk => hk.elim) ?aF ?aO ?aB ?aS ?aL ?_; (case aP => exact rfl); (case aF => intro k hk; omega); (case aO => exact HO.out); (case aB => exact HB.out); (case aS => exact hb0); (case aL => rw [maskL_length, List.length_take]; omega); intro v1 w1 ho hb hg hat; rw [← HS.out] at ho; have HO1 := Aside0.mk ho; have HB1 := Aside0.mk hb; have HM1 := Aside0.mk (HM.out.grown hg (fun e => HO.out.1 _ e.symm rfl)); clear ho hb hg hat HB HO HM)
      go_roundw
      case rel => exact ⟨i + 1, by omega, by go_num, HO1, HB1, HM1⟩
      case measure => simp [intOf]; omega
    · obtain rfl : i = n := by omega
      go_wp2
      go_ret
      have hl0 : l0.take i = l0 := List.take_of_length_le (by have := Hn.out; omega)
      rw [hl0] at HO
      exact ⟨_, rfl, Kd.R_mono HO.out (fun _ _ => trivial), HB.out⟩
end Go.Proofs.YtbjlpdfhjapbkaaDoor
