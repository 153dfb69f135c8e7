/- PIN blocks: contracts of impl.digit, impl.blockOf, impl.packed (sixteen hex digits as a block). Conditions: hex digits, at most 16. -/
import Derived.Test.YtiejallnkgllnaaDig
import Derived.Test.YtiejallnkgllnaaDesA
namespace Go.Proofs.Ytiejallnkgllnaa
open Go.RowKit Go.Proofs.YtiejallnkgllnaaW.PrintWords Go.Proofs.YtiejallnkgllnaaW.PrintLast Go.Proofs.YtiejallnkgllnaaW.PrintMore Go.Proofs.Ytiejallnkgllnaa.D
set_option linter.unusedVariables false
theorem info8 : (Try.prog.info? 84).map (·.size) = some 8 := by kernel_rfl
def Nibs (ds : List Int) : Prop := ∀ d ∈ ds, 0 ≤ d ∧ d ≤ 15
def hexc (d : Int) : Int := if d < 10 then 48 + d else 55 + d
/-- The bytes of a string as numbers. -/
def bI (s : ByteArray) : List Int := s.data.toList.map fun b => (b.toNat : Int)
theorem bI_length (s : ByteArray) : (bI s).length = s.size := by simp [bI]
theorem bI_at (s : ByteArray) (i : Nat) (h : i < s.size) : ((s[i]'h).toNat : Int) = nth (bI s) i := by
  rw [nth_at _ _ (by rw [bI_length]; exact h)]
  simp [bI]
  rfl
/-- s is the text of the digits ds. -/
def HexOf (s : ByteArray) (ds : List Int) : Prop := bI s = ds.map hexc ∧ Nibs ds
theorem HexOf.size {s : ByteArray} {ds : List Int} (h : HexOf s ds) : s.size = ds.length := by rw [← bI_length, h.1, List.length_map]
theorem HexOf.at {s : ByteArray} {ds : List Int} (h : HexOf s ds) (i : Nat) (hi : i < s.size) : ((s[i]'hi).toNat : Int) = hexc (nth ds i) := by
  have hl := h.size
  rw [bI_at, h.1, nth_at _ _ (by simp; omega), nth_at _ _ (by omega), List.getElem_map]
theorem Nibs.at {ds : List Int} (h : Nibs ds) (i : Nat) (hi : i < ds.length) : 0 ≤ nth ds i ∧ nth ds i ≤ 15 := by rw [nth_at _ _ hi]; exact h _ (List.getElem_mem hi)
theorem Nibs.take {ds : List Int} (h : Nibs ds) (k : Nat) : Nibs (ds.take k) := fun d hd => h d (List.mem_of_mem_take hd)
theorem Nibs.drop {ds : List Int} (h : Nibs ds) (k : Nat) : Nibs (ds.drop k) := fun d hd => h d (List.mem_of_mem_drop hd)
theorem Nibs.app {a b : List Int} (h : Nibs a) (h' : Nibs b) : Nibs (a ++ b) := fun d hd => by rcases List.mem_append.1 hd with x | x; exact h d x; exact h' d x

set_option maxHeartbeats 1000000 in
theorem impl_digit.at (d : Int) (w : World) (h0 : 0 ≤ d) (h1 : d ≤ 15) :
    Calls Try.prog 77 #[.int .u8 (hexc d)] w fun e w' => e = .returned (.int .u64 d) ∧ w' = w := by
  unfold hexc
  by_cases h : d < 10
  · rw [if_pos h]
    have c1 : decide (65 ≤ 48 + d) = false := decide_eq_false (by omega)
    go_enter Try.func77, Try.ntmps77
    go_wp2
    all_goals (go_ret; exact ⟨by congr 2; simp; omega, rfl⟩)
  · rw [if_neg h]
    have c1 : decide (65 ≤ 55 + d) = true := decide_eq_true (by omega)
    go_enter Try.func77, Try.ntmps77
    go_wp2
    all_goals (go_ret; exact ⟨by congr 2; simp; omega, rfl⟩)

def outN (v : Int) (i : Nat) : List Int := (List.range i).map (fun j => v / 2 ^ (56 - 8 * j) % 256) ++ List.replicate (8 - i) 0
theorem outN_length (v : Int) (i : Nat) (hi : i ≤ 8) : (outN v i).length = 8 := by simp [outN]; omega
theorem outN_step (v : Int) (i : Nat) (hi : i < 8) : (outN v i).set i (v / 2 ^ (56 - 8 * i) % 256) = outN v (i + 1) := by
  unfold outN
  rw [show 8 - i = (8 - (i + 1)) + 1 by omega, List.replicate_succ, List.range_succ, List.map_append]
  have hset : ∀ (pre : List Int) (v : Int) (rest : List Int), pre.length = i → (pre ++ 0 :: rest).set i v = pre ++ v :: rest := by
    intro pre v rest hp
    subst hp
    simp
  rw [hset _ _ _ (by simp), List.append_assoc]
  rfl

set_option maxHeartbeats 1000000 in
theorem impl_blockOf.at (v : Int) (w : World) (h0 : 0 ≤ v) (h1 : v < 18446744073709551616) :
    Calls Try.prog 78 #[.int .u64 v] w fun e w' => e = .returned (.agg (nums .u8 (outN v 8)).toArray) ∧ Below w.heap.size w w' := by
  go_enter Try.func78, Try.ntmps78
  go_wp2_with fail
  go_loopw [6] (fun i wr => ∃ k : Nat, k ≤ 8 ∧ i = .int .i64 k ∧ Aside0 (Blk wr (w.heap.size + 1) .u8 84 (outN v k)) ∧ Aside0 (Blk wr w.heap.size .u8 84 (List.replicate 8 0)) ∧ Aside0 (Below w.heap.size w wr))
    (fun i _ => 8 - (intOf i).toNat)
  case atStart => exact ⟨0, by omega, rfl, ⟨by have h_ := blk_new (w.alloc (.cells (nums .u8 (List.replicate 8 0)).toArray 84)) (.cells (nums .u8 (List.replicate 8 0)).toArray 84); simpa [nums, Blk, outN, List.replicate] using h_⟩, ⟨by have h_ := blk_alloc (blk_new w (.cells (nums .u8 (List.replicate 8 0)).toArray 84)) (.cells (nums .u8 (List.replicate 8 0)).toArray 84); simpa [nums, Blk, List.replicate] using h_⟩, ⟨((Below.refl _ _).alloc (Nat.le_refl _) _).alloc (by simp) _⟩⟩
  case round =>
    obtain ⟨k, hk, rfl, HO, HZ, HW⟩ := hrel
    by_cases hlt : k < 8
    · have hc := HO.out.cell k (by rw [outN_length v k hk]; exact hlt)
      have hf := HO.out.free k
      have HS := Aside0.mk (outN_step v k hlt)
      have hset := Aside0.mk (HO.out.set k (v / 2 ^ (56 - 8 * k) % 256))
      have hz := Aside0.mk (HZ.out.far (p := ⟨w.heap.size + 1, k, none⟩) (by simp) (.int .u8 (v / 2 ^ (56 - 8 * k) % 256)))
      have hw := Aside0.mk (HW.out.setCell (p := ⟨w.heap.size + 1, k, none⟩) (by simp) (.int .u8 (v / 2 ^ (56 - 8 * k) % 256)))
      have e8 : (56 - 8 * (k : Int)).toNat = 56 - 8 * k := by omega
      go_wp2
      go_roundw
      case rel =>
        refine ⟨k + 1, by omega, by go_num, ?_, ?_, ?_⟩
        · rw [← HS.out]
          first | exact hset | (simp only [e8] at *; exact hset)
        · first | exact hz
        · first | exact hw
      case measure => simp [intOf]; omega
    · obtain rfl : k = 8 := by omega
      have HL := Aside0.mk (outN_length v 8 (by omega))
      go_wp2_with (first | (with_reducible refine wpList_load_blk rfl 84 (.tmp 3) rfl (w.heap.size + 1) rfl Try.underlying84 info8 HO.out HL.out ?_) | (with_reducible refine wpList_store_blk rfl 84 (.tmp 2) (.tmp 18) rfl w.heap.size rfl info8 rfl HZ.out (by simp) HL.out ?_))
      refine bodyPost_ret (results_blk rfl _ _ w.heap.size Try.underlying84 info8 rfl (HZ.out.setRow _) HL.out) rfl ⟨rfl, below_setRow HW.out (Nat.le_refl _) _⟩

/-- The number that hex digits make. -/
def numH (ds : List Int) : Int := ds.foldl (fun a d => a * 16 + d) 0
theorem numH_snoc (ds : List Int) (d : Int) : numH (ds ++ [d]) = numH ds * 16 + d := by simp [numH, List.foldl_append]
theorem numH_acc (ds : List Int) : ∀ a : Int, ds.foldl (fun a d => a * 16 + d) a = a * 16 ^ ds.length + numH ds := by
  induction ds with
  | nil => intro a; simp [numH]
  | cons d ds ih =>
    intro a
    have h1 := ih (a * 16 + d)
    have h2 := ih (0 * 16 + d)
    unfold numH
    simp only [List.foldl_cons, List.length_cons] at *
    rw [h1, h2, Int.pow_succ, Int.add_mul, Int.add_mul, Int.mul_assoc, Int.mul_comm 16 (16 ^ ds.length)]
    omega
theorem numH_app (a b : List Int) : numH (a ++ b) = numH a * 16 ^ b.length + numH b := by
  unfold numH
  rw [List.foldl_append]
  exact numH_acc b _
theorem numH_bound (ds : List Int) (h : Nibs ds) : 0 ≤ numH ds ∧ numH ds < 16 ^ ds.length := by
  induction ds with
  | nil => simp [numH]
  | cons d ds ih =>
    obtain ⟨i0, i1⟩ := ih (fun x hx => h x (List.mem_cons_of_mem _ hx))
    have hd := h d (by simp)
    have e : numH (d :: ds) = d * 16 ^ ds.length + numH ds := by
      have := numH_app [d] ds
      simpa [numH] using this
    rw [e, List.length_cons, Int.pow_succ]
    have hp : (0 : Int) < 16 ^ ds.length := Int.pow_pos (by decide)
    have h1 : 0 ≤ d * 16 ^ ds.length := Int.mul_nonneg hd.1 (Int.le_of_lt hp)
    have h2 : d * 16 ^ ds.length ≤ 15 * 16 ^ ds.length := Int.mul_le_mul_of_nonneg_right hd.2 (Int.le_of_lt hp)
    omega
theorem take_nth (ds : List Int) (k : Nat) (h : k < ds.length) : ds.take (k + 1) = ds.take k ++ [nth ds k] := by
  rw [List.take_succ_eq_append_getElem h, nth_at _ _ h]

set_option maxHeartbeats 1000000 in
theorem impl_packed.at (s : ByteArray) (ds : List Int) (w : World) (h : HexOf s ds) (hl : ds.length ≤ 16) :
    Calls Try.prog 55 #[.string s] w fun e w' => e = .returned (.agg (nums .u8 (outN (numH ds) 8)).toArray) ∧ Below w.heap.size w w' := by
  have HH := Aside0.mk h
  have HS := Aside0.mk h.size
  have HL := Aside0.mk hl
  have hsz : s.size ≤ 16 := by rw [h.size]; exact hl
  clear h hl
  go_enter Try.func55, Try.ntmps55
  go_wp2_with fail
  go_loopw [3, 4, 7] (fun v3 v4 v7 wr => ∃ k : Nat, k ≤ s.size ∧ v7 = .int .i64 k ∧ v3 = .int .u64 (numH (ds.take k)) ∧ Aside0 (Blk wr w.heap.size .u8 84 (List.replicate 8 0)) ∧ Aside0 (Below w.heap.size w wr))
    (fun _ _ v7 _ => s.size - (intOf v7).toNat)
  case atStart => exact ⟨0, by omega, rfl, rfl, ⟨by have h_ := blk_new w (.cells (nums .u8 (List.replicate 8 0)).toArray 84); simpa [nums, Blk, List.replicate] using h_⟩, ⟨(Below.refl _ _).alloc (Nat.le_refl _) _⟩⟩
  case round =>
    obtain ⟨k, hk, rfl, rfl, HZ, HB⟩ := hrel
    by_cases hlt : k < s.size
    · have hkd : k < ds.length := by rw [← HS.out]; exact hlt
      have hcell := HH.out.at k hlt
      obtain ⟨d0, d1⟩ := HH.out.2.at k hkd
      have hb := numH_bound _ (HH.out.2.take k)
      have hnx := Aside0.mk (numH_snoc (ds.take k) (nth ds k))
      rw [← take_nth ds k hkd] at hnx
      have hb2 : numH (ds.take k) < 1152921504606846976 := by
        have h1 : (ds.take k).length ≤ 15 := by rw [List.length_take]; omega
        have h2 : (16 : Int) ^ (ds.take k).length ≤ 16 ^ 15 := by exact_mod_cast Nat.pow_le_pow_right (by decide) h1
        have h3 : (16 : Int) ^ 15 = 1152921504606846976 := by decide
        omega
      have hb0 := hb.1
      clear hb
      obtain ⟨n, hn⟩ : ∃ n, n = numH (ds.take k) := ⟨_, rfl⟩
      rw [← hn] at hb0 hb2 hnx ⊢
      obtain ⟨d, hd⟩ : ∃ d, d = nth ds k := ⟨_, rfl⟩
      rw [← hd] at d0 d1 hnx hcell
      clear hn hd
      have hor := Aside0.mk (or_join n d 4 (by decide) hb0 d0 (by omega) (by omega))
      have hw : IntKind.u64.wrap (n * 16) = n * 16 := by unfold IntKind.wrap; simp [IntKind.bits, IntKind.signed]; omega
      rw [show (2 : Int) ^ 4 = 16 by decide] at hor
      go_wp2_with (go_at_call 77; refine (impl_digit.at d _ d0 d1).mono ?_; rintro e w1 ⟨rfl, rfl⟩)
      go_roundw
      case rel => exact ⟨k + 1, by omega, by go_num, by rw [hnx.out, ← hor.out], HZ, HB⟩
      case measure => simp [intOf]; omega
    · obtain rfl : k = s.size := by omega
      have hall : ds.take s.size = ds := List.take_of_length_le (by rw [HS.out]; exact Nat.le_refl _)
      have hb := numH_bound _ HH.out.2
      have hb2 : numH ds < 18446744073709551616 := by
        have h2 : (16 : Int) ^ ds.length ≤ 16 ^ 16 := by exact_mod_cast Nat.pow_le_pow_right (by decide) HL.out
        have h3 : (16 : Int) ^ 16 = 18446744073709551616 := by decide
        omega
      rw [hall]
      have H0 := Aside0.mk hb.1
      have H2 := Aside0.mk hb2
      have HLN := Aside0.mk (outN_length (numH ds) 8 (by omega))
      clear hb hb2 hall
      go_wp2_with (first | (go_at_call 78; refine (impl_blockOf.at _ _ H0.out H2.out).mono ?_; rintro e w1 ⟨rfl, hb⟩; have HZ1 := Aside0.mk (HZ.out.below hb); have HB1 := Aside0.mk (below_step HB.out hb); clear hb) | (with_reducible refine wpList_store_blk rfl 84 (.tmp 2) (.tmp 19) rfl w.heap.size rfl info8 rfl HZ1.out (by simp) HLN.out ?_))
      refine bodyPost_ret (results_blk rfl _ _ w.heap.size Try.underlying84 info8 rfl (HZ1.out.setRow _) HLN.out) rfl ⟨rfl, below_setRow HB1.out (Nat.le_refl _) _⟩

theorem bI_append (a b : ByteArray) : bI (a ++ b) = bI a ++ bI b := by simp [bI]
theorem bI_extract (s : ByteArray) (a b : Nat) : bI (s.extract a b) = ((bI s).drop a).take (b - a) := by
  simp [bI, ByteArray.data_extract, Array.toList_extract, List.extract_eq_take_drop, List.map_take, List.map_drop]
/-- The digits of a number's text. -/
def dgs (s : ByteArray) : List Int := (bI s).map (· - 48)
theorem dgs_length (s : ByteArray) : (dgs s).length = s.size := by rw [dgs, List.length_map, bI_length]
theorem allDg_bI {s : ByteArray} (h : allDg s = true) : ∀ x ∈ bI s, 48 ≤ x ∧ x ≤ 57 := by
  intro x hx
  obtain ⟨b, hb, rfl⟩ := List.mem_map.1 hx
  have := List.all_eq_true.1 h b hb
  simp only [dgB, Bool.and_eq_true, decide_eq_true_eq] at this
  omega
theorem hex_dig (l : List Int) (h : ∀ x ∈ l, 48 ≤ x ∧ x ≤ 57) : l = (l.map (· - 48)).map hexc := by
  rw [List.map_map]
  conv => lhs; rw [← List.map_id l]
  refine List.map_congr_left fun x hx => ?_
  have := h x hx
  simp only [id, Function.comp, hexc]
  rw [if_pos (by omega)]
  omega
theorem nibs_dig (l : List Int) (h : ∀ x ∈ l, 48 ≤ x ∧ x ≤ 57) : Nibs (l.map (· - 48)) := fun d hd => by
  obtain ⟨x, hx, rfl⟩ := List.mem_map.1 hd
  have := h x hx
  constructor <;> omega
theorem HexOf.app {a b : ByteArray} {x y : List Int} (h : HexOf a x) (h' : HexOf b y) : HexOf (a ++ b) (x ++ y) := ⟨by rw [bI_append, h.1, h'.1, List.map_append], h.2.app h'.2⟩
theorem HexOf.dig {s : ByteArray} (h : allDg s = true) : HexOf s (dgs s) := ⟨hex_dig _ (allDg_bI h), nibs_dig _ (allDg_bI h)⟩
/-- The account's field of a PAN, as digits. -/
def accD (s : ByteArray) : List Int := [0, 0, 0, 0] ++ ((dgs s).drop (s.size - 13)).take 12
theorem accD_length (s : ByteArray) (h : 13 ≤ s.size) : (accD s).length = 16 := by simp [accD, dgs_length]; omega
theorem accD_nibs {s : ByteArray} (h : allDg s = true) : Nibs (accD s) := Nibs.app (fun d hd => by simp at hd; omega) (((HexOf.dig h).2.drop _).take _)
theorem HexOf.acc {s : ByteArray} (h : allDg s = true) (h13 : 13 ≤ s.size) : HexOf (⟨#[48, 48, 48, 48]⟩ ++ s.extract (s.size - 13) (s.size - 1)) (accD s) := by
  refine HexOf.app ⟨by decide, fun d hd => by simp at hd; omega⟩ ⟨?_, ((HexOf.dig h).2.drop _).take _⟩
  rw [bI_extract, show s.size - 1 - (s.size - 13) = 12 by omega]
  conv => lhs; rw [hex_dig _ (allDg_bI h)]
  rw [List.map_take, List.map_drop]
  rfl

set_option maxHeartbeats 1000000 in
theorem impl_account.at (s : ByteArray) (w : World) (h : allDg s = true) (h13 : 13 ≤ s.size) (h19 : s.size ≤ 19) :
    Calls Try.prog 52 #[.string s] w fun e w' => e = .returned (.agg (nums .u8 (outN (numH (accD s)) 8)).toArray) ∧ Below w.heap.size w w' := by
  have HP := Aside0.mk (HexOf.acc h h13)
  have HL := Aside0.mk (Nat.le_of_eq (accD_length s h13))
  have HLN := Aside0.mk (outN_length (numH (accD s)) 8 (by omega))
  have HZ : Aside0 (Blk (w.alloc (.cells (nums .u8 (List.replicate 8 0)).toArray 84)) w.heap.size .u8 84 (List.replicate 8 0)) := ⟨blk_new w _⟩
  have HB : Aside0 (Below w.heap.size w (w.alloc (.cells (nums .u8 (List.replicate 8 0)).toArray 84))) := ⟨(Below.refl _ _).alloc (Nat.le_refl _) _⟩
  clear h
  go_enter Try.func52, Try.ntmps52
  go_wp2_with (first | (go_at_call 55; refine (impl_packed.at _ _ _ HP.out HL.out).mono ?_; rintro e w1 ⟨rfl, hb⟩; have HZ1 := Aside0.mk (HZ.out.below hb); have HB1 := Aside0.mk (below_step HB.out hb); clear hb) | (with_reducible refine wpList_store_blk rfl 84 (.tmp 2) (.tmp 12) rfl w.heap.size rfl info8 rfl HZ1.out (by simp) HLN.out ?_))
  refine bodyPost_ret (results_blk rfl _ _ w.heap.size Try.underlying84 info8 rfl (HZ1.out.setRow _) HLN.out) rfl ⟨rfl, below_setRow HB1.out (Nat.le_refl _) _⟩
end Go.Proofs.Ytiejallnkgllnaa
