/- Small words for walks by hand over the print's words: a whole block that reads as numbers, as a row of the call's own; a fact hidden. · Words for walks by hand over arrays of whole numbers: an element read by index. · Bits as lists and as numbers: plain lemmas on lists of whole numbers, with the model's bit operations on 64 bits. · DES over lists of bits: the tables, the keys, the rounds; that with the keys turned round it undoes itself. Plain: no program. · Contract of impl's block8.number: the number that the block's 64 bits make. Condition: a block of 8 bytes. -/
import Derived.Test.YtbjlpdfhjapbkaaDoorWMore
import Derived.Test.YtbjlpdfhjapbkaaDoorProg
import Derived.WalkKit
import Derived.WalkSpells
import Derived.Laws.CopyOwn
import Derived.Laws.MakeOwn
import Derived.KernelRfl
import Derived.Laws.BitsLemmas
import Derived.Laws.BitsAllLaws
namespace Go.Proofs.YtbjlpdfhjapbkaaDoor
open Go.RowKit Go.Proofs.YtbjlpdfhjapbkaaDoorW.PrintWords Go.Proofs.YtbjlpdfhjapbkaaDoorW.PrintLast Go.Proofs.YtbjlpdfhjapbkaaDoorW.PrintMore

theorem info5 : (Tryd.prog.info? 5).map (fun i => (i.zero, i.size, i.bytes)) = some (some (.int .u8 0), 1, 1) := by kernel_rfl
theorem size5 : (Tryd.prog.info? 5).map (·.size) = some 1 := by kernel_rfl

/-- Element i, a word that the walk leaves alone. -/
def nth (l : List Int) (i : Nat) : Int := l.getD i 0
theorem nth_at (l : List Int) (i : Nat) (h : i < l.length) : nth l i = l[i] := by simp [nth, List.getD_eq_getElem?_getD, h]
theorem rd_nth (l : List Int) (i : Nat) : rd l (i : Int) = nth l i := by simp [rd, nth]
/-- A block that holds just these numbers. -/
def Blk (w : World) (g : Nat) (k : IntKind) (t : TypeId) (xs : List Int) : Prop := w.heap[g]? = some (.cells (nums k xs).toArray t (0, 0))
theorem Blk.R {w : World} {g base n : Nat} {k : IntKind} {e : TypeId} {xs : List Int} (h : Blk w g k e xs) (hb : base ≤ g) (hn : xs.length = n) (hm : n ≤ 9223372036854775807) :
    Kd.R (Kd.int k) e w base (fun _ => True) (.slice (some ⟨g, 0, none⟩) n n) xs := by
  subst hn
  refine Kd.R_of_own (enc := Value.int k) (h1 := fun _ => rfl) ⟨by simp [encs], .inr ⟨g, xs.length, (nums k xs).toArray, rfl, hb, h, Nat.le_refl _, by simpa [maxLen] using hm, by simp [nums], ?_⟩⟩ (fun _ _ => trivial)
  simp only [nums, encs, Nat.mul_one]
  exact List.take_of_length_le (by simp)
theorem Blk.cell {w : World} {g : Nat} {k : IntKind} {t : TypeId} {xs : List Int} (h : Blk w g k t xs) (i : Nat) (hi : i < xs.length) : w.cell? ⟨g, i, none⟩ = some (.int k (nth xs i)) := by
  rw [blk_cell h]
  simp [nums, nth, List.getD_eq_getElem?_getD, hi]
theorem Blk.free {w : World} {g : Nat} {k : IntKind} {t : TypeId} {xs : List Int} (h : Blk w g k t xs) (i : Nat) : w.frozen? ⟨g, i, none⟩ = false := blk_frozen h i
theorem Blk.set {w : World} {g : Nat} {k : IntKind} {t : TypeId} {xs : List Int} (h : Blk w g k t xs) (i : Nat) (x : Int) : Blk (w.setCell ⟨g, i, none⟩ (.int k x)) g k t (xs.set i x) := by
  have := blk_set h i (.int k x)
  rw [Blk, this]
  simp [nums, List.map_set]
theorem Blk.alloc {w : World} {g : Nat} {k : IntKind} {t : TypeId} {xs : List Int} (h : Blk w g k t xs) (o : Obj) : Blk (w.alloc o) g k t xs := blk_alloc h o
theorem Blk.below {w w1 : World} {g : Nat} {k : IntKind} {t : TypeId} {xs : List Int} (h : Blk w g k t xs) (hb : Below w.heap.size w w1) : Blk w1 g k t xs := blk_below h hb
theorem Blk.far {w : World} {g : Nat} {k : IntKind} {t : TypeId} {xs : List Int} (h : Blk w g k t xs) {p : Addr} (hp : g ≠ p.block) (u : Value) : Blk (w.setCell p u) g k t xs := blk_far h hp u
theorem Blk.lt {w : World} {g : Nat} {k : IntKind} {t : TypeId} {xs : List Int} (h : Blk w g k t xs) : g < w.heap.size := blk_lt h
theorem Blk.new (w : World) (k : IntKind) (t : TypeId) (xs : List Int) : Blk (w.alloc (.cells (nums k xs).toArray t)) w.heap.size k t xs := blk_new w _
theorem Blk.grown {w w1 : World} {g : Nat} {k : IntKind} {t : TypeId} {xs : List Int} {row : Option Nat} (h : Blk w g k t xs) (hg : w.grownBy w1 row) (hne : some g ≠ row) : Blk w1 g k t xs := blk_grown h hg hne
theorem made_nums (k : IntKind) (n : Nat) : madeCells #[Value.int k 0] n = (nums k (List.replicate n 0)).toArray := by
  apply Array.ext
  · simp [nums, madeCells]
  · intro i h1 h2
    simp [nums, madeCells, Nat.mod_one]
theorem C_cells {w : World} {k : IntKind} {A : Option Addr} {l : List Int} (h : Kd.C (Kd.int k) w A l.length l) (hp : 0 < l.length) : ∃ ad, A = some ad ∧ ∀ j v, (nums k l)[j]? = some v → w.cell? (ad.add j) = some v := by
  obtain ⟨ad, rfl, _⟩ := Kd.at_int h 0 (by omega) (by omega)
  refine ⟨ad, rfl, fun j v hv => ?_⟩
  have hj : j < l.length := by
    rcases Nat.lt_or_ge j l.length with h' | h'
    · exact h'
    · simp [nums, List.getElem?_eq_none h'] at hv
  obtain ⟨ad', he, hc⟩ := Kd.at_int h (j : Int) (by omega) (by omega)
  cases he
  rw [Int.toNat_natCast] at hc
  rw [hc]
  simp [nums, hj] at hv
  subst hv
  simp [rd, List.getD_eq_getElem?_getD, hj]
theorem nums_one (k : IntKind) (l : List Int) : ∀ v ∈ nums k l, v.oneCell' = true := by
  intro v hv
  simp only [nums, List.mem_map] at hv
  obtain ⟨x, _, rfl⟩ := hv
  rfl
end Go.Proofs.YtbjlpdfhjapbkaaDoor

namespace Go.Proofs.YtbjlpdfhjapbkaaDoor
open Go.RowKit Go.Proofs.YtbjlpdfhjapbkaaDoorW.PrintWords Go.Proofs.YtbjlpdfhjapbkaaDoorW.PrintLast Go.Proofs.YtbjlpdfhjapbkaaDoorW.PrintMore
set_option linter.unusedVariables false

theorem run_index_nums {P : Program} {t e : TypeId} {k : IntKind} {n : Nat} (ht : P.underlying t = some (.array n e)) (he : P.underlying e = some (.int k)) (hs : (P.info? e).map (·.size) = some 1) (xs : List Int) (i : Nat) (hl : xs.length = n) (hi : i < n) (W : World) :
    (Instr.index t (.agg (nums k xs).toArray) (.int .i64 (i : Int))).run P W = .ok (.int k (nth xs i)) W := by
  obtain ⟨info, hinfo, hz⟩ := Option.map_eq_some_iff.1 hs
  have hx : (nums k xs)[i]? = some (.int k (nth xs i)) := by simp [nums, nth, List.getD_eq_getElem?_getD, hl, hi]
  simp [Instr.index, asIntOf, run_underlying ht, part, isAgg, run_underlying he, sizeOf, typeInfo, hinfo, hz, hi, hx]
theorem Blk.setRow {w : World} {g : Nat} {k : IntKind} {t : TypeId} {xs : List Int} (h : Blk w g k t xs) (ys : List Int) : Blk (w.setRow g (nums k ys).toArray) g k t ys := setRow_heap w g _ _ t (0, 0) h
theorem Blk.setRow_far {w : World} {g g' : Nat} {k : IntKind} {t : TypeId} {xs : List Int} (h : Blk w g k t xs) (hne : g ≠ g') (cs : Array Value) : Blk (w.setRow g' cs) g k t xs := (setRow_other w g' g cs hne).trans h
theorem nums_all (k : IntKind) (l : List Int) : (nums k l).toArray.all (·.oneCell') = true := by
  simp only [List.all_toArray, List.all_eq_true]
  exact nums_one k l
section
variable {P : Program} {ops : Array Oper} {rest : List Oper} {o : Oper} {a : Act} {w : World} {Q : Exit → Act → World → Prop}
/-- A whole array read out of its block. -/
theorem wpList_load_blk (hgd : o.guard = none) (ty : TypeId) (x : Operand) (ho : o.op = .load ty x) (g : Nat) (hx : a.eval x = .pointer (some ⟨g, 0, none⟩)) {n : Nat} {e : TypeId} (hu : P.underlying ty = some (.array n e)) (hi : (P.info? ty).map (·.size) = some n)
    {k : IntKind} {t : TypeId} {xs : List Int} (hb : Blk w g k t xs) (hl : xs.length = n) (h : wpList P ops Q rest (a.put o.dst (.agg (nums k xs).toArray)) w) : wpList P ops Q (o :: rest) a w :=
  wpList_load_row hgd ty x ho g hx t (nums k xs).toArray (0, 0) _ hb hu rfl (by rw [hi]; simp [nums, hl]) h
/-- A whole array stored into its block. -/
theorem wpList_store_blk (hgd : o.guard = none) (ty : TypeId) (x y : Operand) (ho : o.op = .store ty x y) (g : Nat) (hx : a.eval x = .pointer (some ⟨g, 0, none⟩)) {n : Nat} (hi : (P.info? ty).map (·.size) = some n)
    {k : IntKind} {t : TypeId} {xs ys : List Int} (hy : a.eval y = .agg (nums k ys).toArray) (hb : Blk w g k t xs) (hl : xs.length = n) (hl2 : ys.length = n) (h : wpList P ops Q rest (a.put o.dst undef) (w.setRow g (nums k ys).toArray)) : wpList P ops Q (o :: rest) a w :=
  wpList_store_row hgd ty x y ho g (nums k ys).toArray hx hy t (nums k xs).toArray hb (by rw [hi]; simp [nums, hl2]) (by simp [nums, hl, hl2]) (nums_all k ys) h
/-- A result that is an array in its block. -/
theorem results_blk {fn : Func} {p : Tmp} {ty : TypeId} (h : fn.results = #[.cell p ty]) (tmps : Array Value) (w : World) (g : Nat) {n : Nat} {e : TypeId} (hu : P.underlying ty = some (.array n e)) (hi : (P.info? ty).map (·.size) = some n)
    {k : IntKind} {t : TypeId} {xs : List Int} (hp : tmps.getD p undef = .pointer (some ⟨g, 0, none⟩)) (hb : Blk w g k t xs) (hl : xs.length = n) :
    (results fn tmps).run P w = .ok (.agg (nums k xs).toArray) w :=
  results_cell_row h tmps w g t (nums k xs).toArray (0, 0) _ hp hb hu rfl (by rw [hi]; simp [nums, hl])
end
end Go.Proofs.YtbjlpdfhjapbkaaDoor

namespace Go.Proofs.YtbjlpdfhjapbkaaDoor.D
open Go.Proofs.YtbjlpdfhjapbkaaDoor
set_option linter.unusedVariables false

def Bits (l : List Int) : Prop := ∀ x ∈ l, x = 0 ∨ x = 1
def Bytes (l : List Int) : Prop := ∀ x ∈ l, 0 ≤ x ∧ x ≤ 255
/-- The number that bits make, the first the highest. -/
def num (l : List Int) : Int := l.foldl (fun a b => 2 * a + b) 0

theorem Bits.take {l : List Int} (h : Bits l) (i : Nat) : Bits (l.take i) := fun x hx => h x (List.mem_of_mem_take hx)
theorem Bits.drop {l : List Int} (h : Bits l) (i : Nat) : Bits (l.drop i) := fun x hx => h x (List.mem_of_mem_drop hx)
theorem Bits.append {a b : List Int} (ha : Bits a) (hb : Bits b) : Bits (a ++ b) := fun x hx => (List.mem_append.1 hx).elim (ha x) (hb x)
theorem Bits.nil : Bits [] := fun x hx => by simp at hx
theorem Bytes.take {l : List Int} (h : Bytes l) (i : Nat) : Bytes (l.take i) := fun x hx => h x (List.mem_of_mem_take hx)
theorem Bytes.drop {l : List Int} (h : Bytes l) (i : Nat) : Bytes (l.drop i) := fun x hx => h x (List.mem_of_mem_drop hx)
theorem Bytes.append {a b : List Int} (ha : Bytes a) (hb : Bytes b) : Bytes (a ++ b) := fun x hx => (List.mem_append.1 hx).elim (ha x) (hb x)
theorem Bits.nth {l : List Int} (h : Bits l) (i : Nat) : Go.Proofs.YtbjlpdfhjapbkaaDoor.nth l i = 0 ∨ Go.Proofs.YtbjlpdfhjapbkaaDoor.nth l i = 1 := by
  by_cases hi : i < l.length
  · rw [nth_at l i hi]; exact h _ (List.getElem_mem hi)
  · left; simp [Go.Proofs.YtbjlpdfhjapbkaaDoor.nth, List.getD_eq_getElem?_getD, hi]
theorem Bytes.nth {l : List Int} (h : Bytes l) (i : Nat) : 0 ≤ Go.Proofs.YtbjlpdfhjapbkaaDoor.nth l i ∧ Go.Proofs.YtbjlpdfhjapbkaaDoor.nth l i ≤ 255 := by
  by_cases hi : i < l.length
  · rw [nth_at l i hi]; exact h _ (List.getElem_mem hi)
  · have : Go.Proofs.YtbjlpdfhjapbkaaDoor.nth l i = 0 := by simp [Go.Proofs.YtbjlpdfhjapbkaaDoor.nth, List.getD_eq_getElem?_getD, hi]
    omega

theorem foldl_num (l : List Int) (a : Int) : l.foldl (fun a b => 2 * a + b) a = a * 2 ^ l.length + num l := by
  induction l generalizing a with
  | nil => simp [num]
  | cons x xs ih =>
    have h1 := ih (2 * a + x)
    have h2 := ih (2 * 0 + x)
    simp only [num, List.foldl_cons, List.length_cons]
    rw [h1, h2, Int.pow_succ]
    generalize (2 : Int) ^ xs.length = p
    have e1 : (2 * a + x) * p = 2 * a * p + x * p := Int.add_mul ..
    have e2 : a * (p * 2) = 2 * a * p := by rw [Int.mul_comm p 2, ← Int.mul_assoc, Int.mul_comm a 2]
    have e3 : (2 * 0 + x) * p = x * p := by simp
    omega
theorem num_append (a b : List Int) : num (a ++ b) = num a * 2 ^ b.length + num b := by
  rw [num, List.foldl_append, foldl_num]
  rfl
theorem num_snoc (l : List Int) (x : Int) : num (l ++ [x]) = 2 * num l + x := by
  rw [num_append]
  simp [num]
  omega
theorem num_bound (l : List Int) (h : Bits l) : 0 ≤ num l ∧ num l < 2 ^ l.length := by
  induction l with
  | nil => simp [num]
  | cons x xs ih =>
    have hx := h x (List.mem_cons_self)
    have ih' := ih (fun y hy => h y (List.mem_cons_of_mem _ hy))
    have e : num (x :: xs) = x * 2 ^ xs.length + num xs := by
      have := num_append [x] xs
      simpa [num] using this
    rw [e, List.length_cons, Int.pow_succ]
    generalize (2 : Int) ^ xs.length = p at ih' ⊢
    rcases hx with rfl | rfl <;> omega
theorem pow_pos2 (n : Nat) : (0 : Int) < 2 ^ n := Int.pow_pos (by decide)
theorem num_split (l : List Int) (i : Nat) (hi : i ≤ l.length) : num l = num (l.take i) * 2 ^ (l.length - i) + num (l.drop i) := by
  have := num_append (l.take i) (l.drop i)
  rwa [List.take_append_drop, List.length_drop] at this
theorem num_div (l : List Int) (h : Bits l) (i : Nat) (hi : i ≤ l.length) : num l / 2 ^ (l.length - i) = num (l.take i) := by
  have hb := num_bound (l.drop i) (h.drop i)
  rw [List.length_drop] at hb
  rw [num_split l i hi, Int.add_comm, Int.add_mul_ediv_right _ _ (Int.ne_of_gt (pow_pos2 _)), Int.ediv_eq_zero_of_lt hb.1 hb.2, Int.zero_add]
theorem num_mod (l : List Int) (h : Bits l) (i : Nat) (hi : i ≤ l.length) : num l % 2 ^ (l.length - i) = num (l.drop i) := by
  have hb := num_bound (l.drop i) (h.drop i)
  rw [List.length_drop] at hb
  rw [num_split l i hi, Int.add_comm, Int.add_mul_emod_self_right]
  exact Int.emod_eq_of_lt hb.1 hb.2
theorem num_bit (l : List Int) (h : Bits l) (i : Nat) (hi : i < l.length) : num l / 2 ^ (l.length - 1 - i) % 2 = nth l i := by
  have h1 := num_div l h (i + 1) (by omega)
  rw [show l.length - 1 - i = l.length - (i + 1) by omega, h1, List.take_succ_eq_append_getElem hi, num_snoc, nth_at l i hi]
  have := h l[i] (List.getElem_mem hi)
  omega

theorem and_mask (x : Int) (i : Nat) (hi : i ≤ 64) (h0 : 0 ≤ x) (h1 : x < 18446744073709551616) : Go.bits .and .u64 x (2 ^ i - 1) = x % 2 ^ i :=
  bits_mask .u64 64 (by decide) (fun n h0 h1 => by rw [IntKind.wrap_u64]; omega) i hi x h0 (by omega)
theorem and1 (x : Int) (h0 : 0 ≤ x) (h1 : x < 18446744073709551616) : Go.bits .and .u64 x 1 = x % 2 := and_mask x 1 (by decide) h0 h1
theorem and63 (x : Int) (h0 : 0 ≤ x) (h1 : x < 18446744073709551616) : Go.bits .and .u64 x 63 = x % 64 := and_mask x 6 (by decide) h0 h1
theorem and28 (x : Int) (h0 : 0 ≤ x) (h1 : x < 18446744073709551616) : Go.bits .and .u64 x 268435455 = x % 268435456 := and_mask x 28 (by decide) h0 h1
theorem and32 (x : Int) (h0 : 0 ≤ x) (h1 : x < 18446744073709551616) : Go.bits .and .u64 x 4294967295 = x % 4294967296 := and_mask x 32 (by decide) h0 h1
theorem or_join (a b : Int) (i : Nat) (hi : i ≤ 64) (ha : 0 ≤ a) (h0 : 0 ≤ b) (h1 : b < 2 ^ i) (h2 : a * 2 ^ i < 18446744073709551616) : Go.bits .or .u64 (a * 2 ^ i) b = a * 2 ^ i + b := by
  have hp := pow_pos2 i
  have hle : (2 : Int) ^ i ≤ 2 ^ 64 := by exact_mod_cast Nat.pow_le_pow_right (by decide) hi
  exact bits_join .u64 64 (by decide) (fun n h0 h1 => by rw [IntKind.wrap_u64]; omega) i (a * 2 ^ i) b (Int.mul_nonneg ha (Int.le_of_lt hp)) (Int.mul_emod_left _ _) (by omega) h0 h1 (by omega)
theorem or1 (a b : Int) (ha : 0 ≤ a) (h2 : a < 9223372036854775808) (hb : b = 0 ∨ b = 1) : Go.bits .or .u64 (a * 2) b = 2 * a + b := by
  have := or_join a b 1 (by decide) ha (by omega) (by omega) (by omega)
  simpa [Int.mul_comm] using this

/-! XOR -/
def xorb (x y : Int) : Int := if x = y then 0 else 1
theorem xor_u8_bit {x y : Int} (hx : x = 0 ∨ x = 1) (hy : y = 0 ∨ y = 1) : Go.bits .xor .u8 x y = xorb x y := by
  rcases hx with rfl | rfl <;> rcases hy with rfl | rfl <;> decide +kernel
theorem xorb_bit (x y : Int) : xorb x y = 0 ∨ xorb x y = 1 := by unfold xorb; split <;> simp
theorem nat_xor_step (a b x y : Nat) (hx : x < 2) (hy : y < 2) : (2 * a + x) ^^^ (2 * b + y) = 2 * (a ^^^ b) + (x ^^^ y) := by
  apply Nat.eq_of_testBit_eq
  intro i
  have hxy : x ^^^ y < 2 := by
    have : x = 0 ∨ x = 1 := by omega
    have : y = 0 ∨ y = 1 := by omega
    rcases ‹x = 0 ∨ x = 1› with rfl | rfl <;> rcases ‹y = 0 ∨ y = 1› with rfl | rfl <;> decide
  cases i with
  | zero =>
    rw [Nat.testBit_xor, Nat.testBit_zero, Nat.testBit_zero, Nat.testBit_zero, show (2 * a + x) % 2 = x by omega, show (2 * b + y) % 2 = y by omega, show (2 * (a ^^^ b) + (x ^^^ y)) % 2 = x ^^^ y by omega]
    have : x = 0 ∨ x = 1 := by omega
    have : y = 0 ∨ y = 1 := by omega
    rcases ‹x = 0 ∨ x = 1› with rfl | rfl <;> rcases ‹y = 0 ∨ y = 1› with rfl | rfl <;> decide
  | succ i =>
    rw [Nat.testBit_xor, Nat.testBit_succ, Nat.testBit_succ, Nat.testBit_succ, show (2 * a + x) / 2 = a by omega, show (2 * b + y) / 2 = b by omega, show (2 * (a ^^^ b) + (x ^^^ y)) / 2 = a ^^^ b by omega, Nat.testBit_xor]
def xorB (a b : List Int) : List Int := List.zipWith xorb a b
theorem xorB_bits (a b : List Int) : Bits (xorB a b) := by
  intro x hx
  unfold xorB at hx
  obtain ⟨i, hi, rfl⟩ := List.mem_iff_getElem.1 hx
  rw [List.getElem_zipWith]
  exact xorb_bit _ _
theorem xorB_length (a b : List Int) (h : a.length = b.length) : (xorB a b).length = a.length := by simp [xorB, h]
theorem num_nat (l : List Int) (h : Bits l) : num l = ((num l).toNat : Int) := (Int.toNat_of_nonneg (num_bound l h).1).symm
theorem nat_xor_num (n : Nat) : ∀ (a b : List Int), a.length = n → b.length = n → Bits a → Bits b → (num a).toNat ^^^ (num b).toNat = (num (xorB a b)).toNat := by
  induction n with
  | zero =>
    intro a b ha hb _ _
    obtain rfl := List.eq_nil_of_length_eq_zero ha
    obtain rfl := List.eq_nil_of_length_eq_zero hb
    rfl
  | succ n ih =>
    intro a b ha hb hA hB
    obtain ⟨a', x, rfl⟩ : ∃ a' x, a = a' ++ [x] := ⟨a.dropLast, a.getLast (by intro h; simp [h] at ha), (List.dropLast_concat_getLast _).symm⟩
    obtain ⟨b', y, rfl⟩ : ∃ b' y, b = b' ++ [y] := ⟨b.dropLast, b.getLast (by intro h; simp [h] at hb), (List.dropLast_concat_getLast _).symm⟩
    have ha' : a'.length = n := by simpa using ha
    have hb' : b'.length = n := by simpa using hb
    have hA' : Bits a' := fun z hz => hA z (List.mem_append_left _ hz)
    have hB' : Bits b' := fun z hz => hB z (List.mem_append_left _ hz)
    have hx := hA x (List.mem_append_right _ (List.mem_cons_self))
    have hy := hB y (List.mem_append_right _ (List.mem_cons_self))
    have e : xorB (a' ++ [x]) (b' ++ [y]) = xorB a' b' ++ [xorb x y] := by
      unfold xorB
      rw [List.zipWith_append (by omega)]
      rfl
    rw [e, num_snoc, num_snoc, num_snoc]
    have h1 := num_bound a' hA'
    have h2 := num_bound b' hB'
    have h3 := num_bound _ (xorB_bits a' b')
    have hi := ih a' b' ha' hb' hA' hB'
    have q1 : (2 * num a' + x).toNat = 2 * (num a').toNat + x.toNat := by rcases hx with rfl | rfl <;> omega
    have q2 : (2 * num b' + y).toNat = 2 * (num b').toNat + y.toNat := by rcases hy with rfl | rfl <;> omega
    have q3 : (2 * num (xorB a' b') + xorb x y).toNat = 2 * (num (xorB a' b')).toNat + (xorb x y).toNat := by rcases xorb_bit x y with h | h <;> rw [h] <;> omega
    rw [q1, q2, q3, nat_xor_step _ _ _ _ (by rcases hx with rfl | rfl <;> decide) (by rcases hy with rfl | rfl <;> decide), hi]
    congr 1
    rcases hx with rfl | rfl <;> rcases hy with rfl | rfl <;> decide
theorem xor_num (a b : List Int) (h : a.length = b.length) (hl : a.length ≤ 64) (ha : Bits a) (hb : Bits b) : Go.bits .xor .u64 (num a) (num b) = num (xorB a b) := by
  have h1 := num_bound a ha
  have h2 := num_bound b hb
  have hp : (2 : Int) ^ a.length ≤ 2 ^ 64 := by exact_mod_cast Nat.pow_le_pow_right (by decide) hl
  rw [← h] at h2
  rw [u64_xor (num a) (num b) h1.1 (by omega) h2.1 (by omega), nat_xor_num a.length a b rfl h.symm ha hb]
  exact (num_nat _ (xorB_bits a b)).symm

/-! picks -/
def pickB (bs t : List Int) : List Int := t.map fun n => nth bs (n.toNat - 1)
theorem pickB_bits {bs : List Int} (h : Bits bs) (t : List Int) : Bits (pickB bs t) := by
  intro x hx
  simp only [pickB, List.mem_map] at hx
  obtain ⟨n, _, rfl⟩ := hx
  exact h.nth _
theorem pickB_length (bs t : List Int) : (pickB bs t).length = t.length := by simp [pickB]

/-! bytes and bits -/
def bits8 (x : Int) : List Int := [x / 128 % 2, x / 64 % 2, x / 32 % 2, x / 16 % 2, x / 8 % 2, x / 4 % 2, x / 2 % 2, x % 2]
theorem bits8_bits (x : Int) : Bits (bits8 x) := by
  intro y hy
  simp only [bits8, List.mem_cons, List.not_mem_nil, or_false] at hy
  rcases hy with rfl | rfl | rfl | rfl | rfl | rfl | rfl | rfl <;> omega
theorem num_bits8 (x : Int) (h : 0 ≤ x ∧ x ≤ 255) : num (bits8 x) = x := by
  simp only [num, bits8, List.foldl_cons, List.foldl_nil]
  omega
def bitsOf (l : List Int) : List Int := l.flatMap bits8
theorem bitsOf_bits (l : List Int) : Bits (bitsOf l) := by
  intro x hx
  simp only [bitsOf, List.mem_flatMap] at hx
  obtain ⟨y, _, hy⟩ := hx
  exact bits8_bits y x hy
theorem bitsOf_length (l : List Int) : (bitsOf l).length = 8 * l.length := by
  induction l with
  | nil => rfl
  | cons x xs ih =>
    have e : bitsOf (x :: xs) = bits8 x ++ bitsOf xs := rfl
    rw [e, List.length_append, ih]
    simp [bits8]
    omega
theorem bitsOf_append (a b : List Int) : bitsOf (a ++ b) = bitsOf a ++ bitsOf b := by simp [bitsOf]
/-- Bits, eight by eight. -/
def unbits : List Int → List Int
  | a :: b :: c :: d :: e :: f :: g :: h :: t => num [a, b, c, d, e, f, g, h] :: unbits t
  | _ => []
theorem unbits_bitsOf (l : List Int) (h : Bytes l) : unbits (bitsOf l) = l := by
  induction l with
  | nil => rfl
  | cons x xs ih =>
    have e : bitsOf (x :: xs) = bits8 x ++ bitsOf xs := rfl
    rw [e]
    simp only [bits8, List.cons_append, List.nil_append, unbits]
    rw [ih (fun y hy => h y (List.mem_cons_of_mem _ hy))]
    congr 1
    exact num_bits8 x (h x (List.mem_cons_self))
theorem bits8_num {a b c d e f g h : Int} (H : Bits [a, b, c, d, e, f, g, h]) : bits8 (num [a, b, c, d, e, f, g, h]) = [a, b, c, d, e, f, g, h] := by
  have hh := H
  simp only [Bits, List.mem_cons, List.not_mem_nil, or_false, forall_eq_or_imp, forall_eq] at hh
  obtain ⟨h0, h1, h2, h3, h4, h5, h6, h7⟩ := hh
  have z : ∀ x : Int, x = 0 ∨ x = 1 → 0 ≤ x ∧ x ≤ 1 := fun x hx => by omega
  replace h0 := z _ h0
  replace h1 := z _ h1
  replace h2 := z _ h2
  replace h3 := z _ h3
  replace h4 := z _ h4
  replace h5 := z _ h5
  replace h6 := z _ h6
  replace h7 := z _ h7
  clear z H
  simp only [num, bits8, List.foldl_cons, List.foldl_nil, List.cons.injEq, and_true]
  refine ⟨?_, ?_, ?_, ?_, ?_, ?_, ?_, ?_⟩ <;> omega
theorem list8 {α : Type} {l : List α} (h : 8 ≤ l.length) : ∃ a b c d e f g i t, l = a :: b :: c :: d :: e :: f :: g :: i :: t := by
  match l, h with
  | a :: b :: c :: d :: e :: f :: g :: i :: t, _ => exact ⟨a, b, c, d, e, f, g, i, t, rfl⟩
theorem bitsOf_unbits (n : Nat) : ∀ (l : List Int), l.length = 8 * n → Bits l → bitsOf (unbits l) = l := by
  induction n with
  | zero =>
    intro l hl _
    obtain rfl := List.eq_nil_of_length_eq_zero (by omega : l.length = 0)
    rfl
  | succ n ih =>
    intro l hl hb
    obtain ⟨a, b, c, d, e, f, g, i, t, rfl⟩ := list8 (l := l) (by omega)
    simp only [unbits]
    have e1 : ∀ x xs, bitsOf (x :: xs) = bits8 x ++ bitsOf xs := fun _ _ => rfl
    rw [e1, ih t (by simp at hl; omega) (fun x hx => hb x (by simp [hx])), bits8_num (fun x hx => hb x (by simp only [List.mem_cons, List.not_mem_nil, or_false] at hx ⊢; omega))]
    rfl
theorem unbits_length (n : Nat) : ∀ (l : List Int), l.length = 8 * n → (unbits l).length = n := by
  induction n with
  | zero =>
    intro l hl
    obtain rfl := List.eq_nil_of_length_eq_zero (by omega : l.length = 0)
    rfl
  | succ n ih =>
    intro l hl
    obtain ⟨a, b, c, d, e, f, g, i, t, rfl⟩ := list8 (l := l) (by omega)
    simp only [unbits, List.length_cons]
    rw [ih t (by simp at hl; omega)]
theorem unbits_bytes (n : Nat) : ∀ (l : List Int), l.length = 8 * n → Bits l → Bytes (unbits l) := by
  induction n with
  | zero =>
    intro l hl _
    obtain rfl := List.eq_nil_of_length_eq_zero (by omega : l.length = 0)
    intro x hx
    simp [unbits] at hx
  | succ n ih =>
    intro l hl hb
    obtain ⟨a, b, c, d, e, f, g, i, t, rfl⟩ := list8 (l := l) (by omega)
    intro x hx
    simp only [unbits, List.mem_cons] at hx
    rcases hx with rfl | hx
    · have := num_bound [a, b, c, d, e, f, g, i] (fun y hy => hb y (by simp only [List.mem_cons, List.not_mem_nil, or_false] at hy ⊢; omega))
      simp at this
      omega
    · exact ih t (by simp at hl; omega) (fun y hy => hb y (by simp [hy])) x hx
theorem num_bitsOf_snoc (xs : List Int) (x : Int) (hx : 0 ≤ x ∧ x ≤ 255) : num (bitsOf (xs ++ [x])) = num (bitsOf xs) * 256 + x := by
  rw [bitsOf_append, num_append]
  have e : bitsOf [x] = bits8 x := by simp [bitsOf]
  rw [e, num_bits8 x hx, show (bits8 x).length = 8 from rfl, show (2 : Int) ^ 8 = 256 from by decide]
end Go.Proofs.YtbjlpdfhjapbkaaDoor.D

namespace Go.Proofs.YtbjlpdfhjapbkaaDoor.D
open Go.Proofs.YtbjlpdfhjapbkaaDoor
set_option linter.unusedVariables false

def tIP : List Int := [58, 50, 42, 34, 26, 18, 10, 2, 60, 52, 44, 36, 28, 20, 12, 4, 62, 54, 46, 38, 30, 22, 14, 6, 64, 56, 48, 40, 32, 24, 16, 8, 57, 49, 41, 33, 25, 17, 9, 1, 59, 51, 43, 35, 27, 19, 11, 3, 61, 53, 45, 37, 29, 21, 13, 5, 63, 55, 47, 39, 31, 23, 15, 7]
def tINV : List Int := [40, 8, 48, 16, 56, 24, 64, 32, 39, 7, 47, 15, 55, 23, 63, 31, 38, 6, 46, 14, 54, 22, 62, 30, 37, 5, 45, 13, 53, 21, 61, 29, 36, 4, 44, 12, 52, 20, 60, 28, 35, 3, 43, 11, 51, 19, 59, 27, 34, 2, 42, 10, 50, 18, 58, 26, 33, 1, 41, 9, 49, 17, 57, 25]
def tE : List Int := [32, 1, 2, 3, 4, 5, 4, 5, 6, 7, 8, 9, 8, 9, 10, 11, 12, 13, 12, 13, 14, 15, 16, 17, 16, 17, 18, 19, 20, 21, 20, 21, 22, 23, 24, 25, 24, 25, 26, 27, 28, 29, 28, 29, 30, 31, 32, 1]
def tP : List Int := [16, 7, 20, 21, 29, 12, 28, 17, 1, 15, 23, 26, 5, 18, 31, 10, 2, 8, 24, 14, 32, 27, 3, 9, 19, 13, 30, 6, 22, 11, 4, 25]
def tPC1 : List Int := [57, 49, 41, 33, 25, 17, 9, 1, 58, 50, 42, 34, 26, 18, 10, 2, 59, 51, 43, 35, 27, 19, 11, 3, 60, 52, 44, 36, 63, 55, 47, 39, 31, 23, 15, 7, 62, 54, 46, 38, 30, 22, 14, 6, 61, 53, 45, 37, 29, 21, 13, 5, 28, 20, 12, 4]
def tPC2 : List Int := [14, 17, 11, 24, 1, 5, 3, 28, 15, 6, 21, 10, 23, 19, 12, 4, 26, 8, 16, 7, 27, 20, 13, 2, 41, 52, 31, 37, 47, 55, 30, 40, 51, 45, 33, 48, 44, 49, 39, 56, 34, 53, 46, 42, 50, 36, 29, 32]
def turnsL : List Nat := [1, 1, 2, 2, 2, 2, 2, 2, 1, 2, 2, 2, 2, 2, 2, 1]
/-- The boxes as texts: the codes of hex digits. -/
def boxT : List (List UInt8) := [
  [69, 52, 68, 49, 50, 70, 66, 56, 51, 65, 54, 67, 53, 57, 48, 55, 48, 70, 55, 52, 69, 50, 68, 49, 65, 54, 67, 66, 57, 53, 51, 56, 52, 49, 69, 56, 68, 54, 50, 66, 70, 67, 57, 55, 51, 65, 53, 48, 70, 67, 56, 50, 52, 57, 49, 55, 53, 66, 51, 69, 65, 48, 54, 68],
  [70, 49, 56, 69, 54, 66, 51, 52, 57, 55, 50, 68, 67, 48, 53, 65, 51, 68, 52, 55, 70, 50, 56, 69, 67, 48, 49, 65, 54, 57, 66, 53, 48, 69, 55, 66, 65, 52, 68, 49, 53, 56, 67, 54, 57, 51, 50, 70, 68, 56, 65, 49, 51, 70, 52, 50, 66, 54, 55, 67, 48, 53, 69, 57],
  [65, 48, 57, 69, 54, 51, 70, 53, 49, 68, 67, 55, 66, 52, 50, 56, 68, 55, 48, 57, 51, 52, 54, 65, 50, 56, 53, 69, 67, 66, 70, 49, 68, 54, 52, 57, 56, 70, 51, 48, 66, 49, 50, 67, 53, 65, 69, 55, 49, 65, 68, 48, 54, 57, 56, 55, 52, 70, 69, 51, 66, 53, 50, 67],
  [55, 68, 69, 51, 48, 54, 57, 65, 49, 50, 56, 53, 66, 67, 52, 70, 68, 56, 66, 53, 54, 70, 48, 51, 52, 55, 50, 67, 49, 65, 69, 57, 65, 54, 57, 48, 67, 66, 55, 68, 70, 49, 51, 69, 53, 50, 56, 52, 51, 70, 48, 54, 65, 49, 68, 56, 57, 52, 53, 66, 67, 55, 50, 69],
  [50, 67, 52, 49, 55, 65, 66, 54, 56, 53, 51, 70, 68, 48, 69, 57, 69, 66, 50, 67, 52, 55, 68, 49, 53, 48, 70, 65, 51, 57, 56, 54, 52, 50, 49, 66, 65, 68, 55, 56, 70, 57, 67, 53, 54, 51, 48, 69, 66, 56, 67, 55, 49, 69, 50, 68, 54, 70, 48, 57, 65, 52, 53, 51],
  [67, 49, 65, 70, 57, 50, 54, 56, 48, 68, 51, 52, 69, 55, 53, 66, 65, 70, 52, 50, 55, 67, 57, 53, 54, 49, 68, 69, 48, 66, 51, 56, 57, 69, 70, 53, 50, 56, 67, 51, 55, 48, 52, 65, 49, 68, 66, 54, 52, 51, 50, 67, 57, 53, 70, 65, 66, 69, 49, 55, 54, 48, 56, 68],
  [52, 66, 50, 69, 70, 48, 56, 68, 51, 67, 57, 55, 53, 65, 54, 49, 68, 48, 66, 55, 52, 57, 49, 65, 69, 51, 53, 67, 50, 70, 56, 54, 49, 52, 66, 68, 67, 51, 55, 69, 65, 70, 54, 56, 48, 53, 57, 50, 54, 66, 68, 56, 49, 52, 65, 55, 57, 53, 48, 70, 69, 50, 51, 67],
  [68, 50, 56, 52, 54, 70, 66, 49, 65, 57, 51, 69, 53, 48, 67, 55, 49, 70, 68, 56, 65, 51, 55, 52, 67, 53, 54, 66, 48, 69, 57, 50, 55, 66, 52, 49, 57, 67, 69, 50, 48, 54, 65, 68, 70, 51, 53, 56, 50, 49, 69, 55, 52, 65, 56, 68, 70, 67, 57, 48, 51, 53, 54, 66]]
def hexv (c : Int) : Int := if c ≤ 57 then c - 48 else c - 65 + 10
def nib (v : Int) : List Int := [v / 8 % 2, v / 4 % 2, v / 2 % 2, v % 2]
/-- The code at place i of box k. -/
def boxC (k i : Nat) : Int := (((boxT.getD k []).getD i 0).toNat : Int)
/-- Where six bits look. -/
def place (g : List Int) : Int := (nth g 0 * 2 + nth g 5) * 16 + (nth g 1 * 8 + nth g 2 * 4 + nth g 3 * 2 + nth g 4)
def boxB (k : Nat) (g : List Int) : List Int := nib (hexv (boxC k (place g).toNat))
def boxesTo (x : List Int) : Nat → List Int
  | 0 => []
  | k + 1 => boxesTo x k ++ boxB k (x.drop (6 * k))
def boxesB (x : List Int) : List Int := boxesTo x 8
def roundB (r k : List Int) : List Int := pickB (boxesB (xorB (pickB r tE) k)) tP
def turnB (n : Nat) (l : List Int) : List Int := l.drop n ++ l.take n
def keysFrom : List Nat → List Int → List Int → List (List Int)
  | [], _, _ => []
  | n :: ns, c, d => pickB (turnB n c ++ turnB n d) tPC2 :: keysFrom ns (turnB n c) (turnB n d)
def keysB (key : List Int) : List (List Int) := keysFrom turnsL ((pickB (bitsOf key) tPC1).take 28) ((pickB (bitsOf key) tPC1).drop 28)
def feist : List (List Int) → List Int × List Int → List Int × List Int
  | [], p => p
  | k :: ks, p => feist ks (p.2, xorB p.1 (roundB p.2 k))
def swapB (p : List Int × List Int) : List Int × List Int := (p.2, p.1)
def desB (ks : List (List Int)) (x : List Int) : List Int := pickB ((feist ks ((pickB x tIP).take 32, (pickB x tIP).drop 32)).2 ++ (feist ks ((pickB x tIP).take 32, (pickB x tIP).drop 32)).1) tINV
def dirB (dec : Bool) (ks : List (List Int)) : List (List Int) := if dec then ks.reverse else ks
/-- DES of a block of 8 bytes under a key of 8. -/
def desL (key block : List Int) (dec : Bool) : List Int := unbits (desB (dirB dec (keysB key)) (bitsOf block))

theorem nib_bits (v : Int) : Bits (nib v) := by
  intro y hy
  simp only [nib, List.mem_cons, List.not_mem_nil, or_false] at hy
  rcases hy with rfl | rfl | rfl | rfl <;> omega
theorem boxesTo_bits (x : List Int) (k : Nat) : Bits (boxesTo x k) := by
  induction k with
  | zero => exact Bits.nil
  | succ k ih => exact ih.append (nib_bits _)
theorem boxesTo_length (x : List Int) (k : Nat) : (boxesTo x k).length = 4 * k := by
  induction k with
  | zero => rfl
  | succ k ih => rw [boxesTo, List.length_append, ih]; simp [boxB, nib]; omega
theorem roundB_bits (r k : List Int) : Bits (roundB r k) := pickB_bits (boxesTo_bits _ _) _
theorem roundB_length (r k : List Int) : (roundB r k).length = 32 := pickB_length _ _
theorem turnB_length (n : Nat) (l : List Int) : (turnB n l).length = l.length := by simp [turnB]; omega
theorem turnB_bits {l : List Int} (h : Bits l) (n : Nat) : Bits (turnB n l) := (h.drop n).append (h.take n)
theorem keysFrom_good (ns : List Nat) : ∀ (c d : List Int), Bits c → Bits d → ∀ k ∈ keysFrom ns c d, Bits k ∧ k.length = 48 := by
  induction ns with
  | nil => intro c d _ _ k hk; simp [keysFrom] at hk
  | cons n ns ih =>
    intro c d hc hd k hk
    simp only [keysFrom, List.mem_cons] at hk
    rcases hk with rfl | hk
    · exact ⟨pickB_bits ((turnB_bits hc n).append (turnB_bits hd n)) _, pickB_length _ _⟩
    · exact ih _ _ (turnB_bits hc n) (turnB_bits hd n) k hk
theorem keysFrom_length (ns : List Nat) : ∀ (c d : List Int), (keysFrom ns c d).length = ns.length := by
  induction ns with
  | nil => intro c d; rfl
  | cons n ns ih => intro c d; simp [keysFrom, ih]
theorem keysB_good (key : List Int) : ∀ k ∈ keysB key, Bits k ∧ k.length = 48 :=
  keysFrom_good _ _ _ ((pickB_bits (bitsOf_bits key) _).take _) ((pickB_bits (bitsOf_bits key) _).drop _)
theorem keysB_length (key : List Int) : (keysB key).length = 16 := keysFrom_length _ _ _
theorem dirB_good {dec : Bool} {ks : List (List Int)} (h : ∀ k ∈ ks, Bits k ∧ k.length = 48) : ∀ k ∈ dirB dec ks, Bits k ∧ k.length = 48 := by
  unfold dirB
  split
  · intro k hk; exact h k (List.mem_reverse.1 hk)
  · exact h
theorem feist_good (ks : List (List Int)) : ∀ (p : List Int × List Int), p.1.length = 32 → p.2.length = 32 → Bits p.1 → Bits p.2 →
    (feist ks p).1.length = 32 ∧ (feist ks p).2.length = 32 ∧ Bits (feist ks p).1 ∧ Bits (feist ks p).2 := by
  induction ks with
  | nil => intro p h1 h2 h3 h4; exact ⟨h1, h2, h3, h4⟩
  | cons k ks ih =>
    intro p h1 h2 h3 h4
    exact ih _ h2 (by simp only []; rw [xorB_length _ _ (by rw [roundB_length]; exact h1)]; exact h1) h4 (xorB_bits _ _)
theorem feist_append (a b : List (List Int)) (p : List Int × List Int) : feist (a ++ b) p = feist b (feist a p) := by
  induction a generalizing p with
  | nil => rfl
  | cons k ks ih => exact ih _
theorem xorB_twice (a b : List Int) (ha : Bits a) (hb : Bits b) (h : a.length = b.length) : xorB (xorB a b) b = a := by
  apply List.ext_getElem
  · rw [xorB_length _ _ (by rw [xorB_length _ _ h]; exact h), xorB_length _ _ h]
  · intro i h1 h2
    have hbi : i < b.length := by omega
    have hx := ha a[i] (List.getElem_mem h2)
    have hy := hb b[i] (List.getElem_mem hbi)
    simp only [xorB, List.getElem_zipWith]
    generalize b[i] = y at hy
    generalize a[i] = x at hx
    unfold xorb
    by_cases e : x = y
    · subst e
      rw [if_pos rfl]
      split <;> omega
    · rw [if_neg e]
      split <;> omega
theorem feist_undo (ks : List (List Int)) : ∀ (p : List Int × List Int), p.1.length = 32 → p.2.length = 32 → Bits p.1 → Bits p.2 →
    feist ks.reverse (swapB (feist ks p)) = swapB p := by
  induction ks with
  | nil => intro p _ _ _ _; rfl
  | cons k ks ih =>
    intro p h1 h2 h3 h4
    rw [List.reverse_cons, feist_append]
    have e := ih (p.2, xorB p.1 (roundB p.2 k)) h2 (by simp only []; rw [xorB_length _ _ (by rw [roundB_length]; exact h1)]; exact h1) h4 (xorB_bits _ _)
    simp only [feist]
    rw [e]
    simp only [swapB]
    rw [xorB_twice _ _ h3 (roundB_bits _ _) (by rw [roundB_length]; exact h1)]
theorem pick_pick (bs t u v : List Int) (h : ∀ i, i < u.length → nth t ((nth u i).toNat - 1) = nth v i) (hl : u.length = v.length) (hr : ∀ i, i < u.length → (nth u i).toNat - 1 < t.length) : pickB (pickB bs t) u = pickB bs v := by
  apply List.ext_getElem
  · simp [pickB, hl]
  · intro i h1 h2
    simp only [pickB, List.length_map] at h1 h2
    have hi := h i h1
    have hri := hr i h1
    simp only [pickB, List.getElem_map]
    rw [nth_at u i h1] at hi hri
    rw [nth_at v i h2] at hi
    rw [nth_at _ _ (by simpa using hri), List.getElem_map, ← hi, nth_at t _ hri]
def tID : List Int := (List.range 64).map fun (i : Nat) => (i : Int) + 1
theorem pick_id (bs : List Int) (h : bs.length = 64) : pickB bs tID = bs := by
  apply List.ext_getElem
  · simp [pickB, tID, h]
  · intro i h1 h2
    have e : ((i : Int) + 1).toNat - 1 = i := by omega
    simp only [pickB, tID, List.map_map, List.getElem_map, List.getElem_range, Function.comp_def]
    rw [e, nth_at bs i h2]
theorem inv_ip (bs : List Int) (h : bs.length = 64) : pickB (pickB bs tIP) tINV = bs := by
  rw [pick_pick bs tIP tINV tID (by decide +kernel) (by decide +kernel) (by decide +kernel), pick_id bs h]
theorem ip_inv (bs : List Int) (h : bs.length = 64) : pickB (pickB bs tINV) tIP = bs := by
  rw [pick_pick bs tINV tIP tID (by decide +kernel) (by decide +kernel) (by decide +kernel), pick_id bs h]
theorem desB_bits {x : List Int} (ks : List (List Int)) (hx : Bits x) (hl : x.length = 64) : Bits (desB ks x) ∧ (desB ks x).length = 64 := by
  have hp := pickB_bits hx tIP
  have hlen : (pickB x tIP).length = 64 := pickB_length _ _
  obtain ⟨h1, h2, h3, h4⟩ := feist_good ks ((pickB x tIP).take 32, (pickB x tIP).drop 32) (by simp [hlen]) (by simp [hlen]) (hp.take _) (hp.drop _)
  exact ⟨pickB_bits (h4.append h3) _, pickB_length _ _⟩
theorem desB_undo (ks : List (List Int)) (x : List Int) (hx : Bits x) (hl : x.length = 64) : desB ks.reverse (desB ks x) = x := by
  have hp := pickB_bits hx tIP
  have hlen : (pickB x tIP).length = 64 := pickB_length _ _
  obtain ⟨h1, h2, h3, h4⟩ := feist_good ks ((pickB x tIP).take 32, (pickB x tIP).drop 32) (by simp [hlen]) (by simp [hlen]) (hp.take _) (hp.drop _)
  have hu := feist_undo ks ((pickB x tIP).take 32, (pickB x tIP).drop 32) (by simp [hlen]) (by simp [hlen]) (hp.take _) (hp.drop _)
  have e : pickB (desB ks x) tIP = (feist ks ((pickB x tIP).take 32, (pickB x tIP).drop 32)).2 ++ (feist ks ((pickB x tIP).take 32, (pickB x tIP).drop 32)).1 := by
    unfold desB
    rw [ip_inv _ (by rw [List.length_append, h1, h2])]
  unfold desB at e ⊢
  rw [e, List.take_left' h2, List.drop_left' h2]
  have e2 : ((feist ks ((pickB x tIP).take 32, (pickB x tIP).drop 32)).2, (feist ks ((pickB x tIP).take 32, (pickB x tIP).drop 32)).1) = swapB (feist ks ((pickB x tIP).take 32, (pickB x tIP).drop 32)) := rfl
  rw [e2, hu]
  simp only [swapB]
  rw [List.take_append_drop, inv_ip x hl]
theorem desL_length (key block : List Int) (dec : Bool) (h : block.length = 8) : (desL key block dec).length = 8 :=
  unbits_length 8 _ (desB_bits _ (bitsOf_bits block) (by rw [bitsOf_length]; omega)).2
theorem desL_bytes (key block : List Int) (dec : Bool) (h : block.length = 8) : Bytes (desL key block dec) :=
  unbits_bytes 8 _ (desB_bits _ (bitsOf_bits block) (by rw [bitsOf_length]; omega)).2 (desB_bits _ (bitsOf_bits block) (by rw [bitsOf_length]; omega)).1
/-- With the keys in the opposite order DES undoes itself. -/
theorem desL_undo (key block : List Int) (dec : Bool) (h : block.length = 8) (hb : Bytes block) : desL key (desL key block dec) (!dec) = block := by
  have h64 : (bitsOf block).length = 64 := by rw [bitsOf_length]; omega
  obtain ⟨h1, h2⟩ := desB_bits (dirB dec (keysB key)) (bitsOf_bits block) h64
  unfold desL
  rw [bitsOf_unbits 8 _ h2 h1]
  have e : dirB (!dec) (keysB key) = (dirB dec (keysB key)).reverse := by cases dec <;> simp [dirB]
  rw [e, desB_undo _ _ (bitsOf_bits block) h64, unbits_bitsOf block hb]
end Go.Proofs.YtbjlpdfhjapbkaaDoor.D

namespace Go.Proofs.YtbjlpdfhjapbkaaDoor
open Go.RowKit Go.Proofs.YtbjlpdfhjapbkaaDoorW.PrintWords Go.Proofs.YtbjlpdfhjapbkaaDoorW.PrintLast Go.Proofs.YtbjlpdfhjapbkaaDoorW.PrintMore Go.Proofs.YtbjlpdfhjapbkaaDoor.D
set_option linter.unusedVariables false

theorem info8 : (Tryd.prog.info? 38).map (·.size) = some 8 := by kernel_rfl
theorem number_step (b : List Int) (i : Nat) (hi : i < b.length) (h8 : b.length = 8) (hb : Bytes b) : Go.bits .or .u64 (num (bitsOf (b.take i)) * 256) (nth b i) = num (bitsOf (b.take (i + 1))) := by
  have h1 := num_bound (bitsOf (b.take i)) (bitsOf_bits _)
  have hl : (bitsOf (b.take i)).length ≤ 56 := by rw [bitsOf_length, List.length_take]; omega
  have hp : (2 : Int) ^ (bitsOf (b.take i)).length ≤ 2 ^ 56 := by exact_mod_cast Nat.pow_le_pow_right (by decide) hl
  have hx := hb.nth i
  rw [List.take_succ_eq_append_getElem hi, num_bitsOf_snoc _ _ (hb _ (List.getElem_mem hi)), ← nth_at b i hi]
  have := or_join (num (bitsOf (b.take i))) (nth b i) 8 (by decide) h1.1 hx.1 (by omega) (by omega)
  simpa using this
theorem number_small (b : List Int) (i : Nat) (hi : i < b.length) (h8 : b.length = 8) : 0 ≤ num (bitsOf (b.take i)) ∧ num (bitsOf (b.take i)) < 72057594037927936 := by
  have h1 := num_bound (bitsOf (b.take i)) (bitsOf_bits _)
  have hl : (bitsOf (b.take i)).length ≤ 56 := by rw [bitsOf_length, List.length_take]; omega
  have hp : (2 : Int) ^ (bitsOf (b.take i)).length ≤ 2 ^ 56 := by exact_mod_cast Nat.pow_le_pow_right (by decide) hl
  omega

set_option maxHeartbeats 1000000 in
theorem impl_number.calls (b : List Int) (w : World) (h8 : b.length = 8) (hb : Bytes b) :
    Calls Tryd.prog 57 #[.agg (nums .u8 b).toArray] w fun e w' => e = .returned (.int .u64 (num (bitsOf b))) ∧ Below w.heap.size w w' := by
  have H8 := Aside0.mk h8
  have HB := Aside0.mk hb
  clear h8 hb
  go_enter Tryd.func57, Tryd.ntmps57
  go_wp2_with (with_reducible refine wpList_load_row rfl 38 _ rfl w.heap.size rfl 38 (nums .u8 b).toArray (0, 0) _ (blk_new w _) Tryd.underlying38 rfl ?c1 ?_)
  case c1 => rw [info8]; simp [nums, H8.out]
  go_loop [3, 7] (fun n i => ∃ k : Nat, k ≤ 8 ∧ i = .int .i64 k ∧ n = .int .u64 (num (bitsOf (b.take k)))) (fun _ i => 8 - (intOf i).toNat)
  case atStart => exact ⟨0, by omega, rfl, rfl⟩
  case round =>
    obtain ⟨k, hk, rfl, rfl⟩ := hrel
    by_cases hlt : k < 8
    · have hidx := run_index_nums (P := Tryd.prog) Tryd.underlying38 Tryd.underlying5 size5 b k H8.out hlt
      have hst := number_step b k (by rw [H8.out]; exact hlt) H8.out HB.out
      have hsm := number_small b k (by rw [H8.out]; exact hlt) H8.out
      have hbyte := HB.out.nth k
      obtain ⟨v, hv⟩ : ∃ v, v = num (bitsOf (b.take k)) := ⟨_, rfl⟩
      rw [← hv] at hst hsm ⊢
      obtain ⟨y, hy⟩ : ∃ y, y = nth b k := ⟨_, rfl⟩
      rw [← hy] at hst hbyte hidx
      clear hv hy
      have HS := Aside0.mk hst
      clear hst
      obtain ⟨hs0, hs1⟩ := hsm
      obtain ⟨hy0, hy1⟩ := hbyte
      go_wp2
      go_round
      case rel => exact ⟨k + 1, by omega, by go_num, by rw [← HS.out]⟩
      case measure => simp [intOf]; omega
    · obtain rfl : k = 8 := by omega
      go_wp2
      go_ret
      rw [List.take_of_length_le (by rw [H8.out]; exact Nat.le_refl _)]
      exact ⟨rfl, (Below.refl _ _).alloc (Nat.le_refl _) _⟩
end Go.Proofs.YtbjlpdfhjapbkaaDoor
