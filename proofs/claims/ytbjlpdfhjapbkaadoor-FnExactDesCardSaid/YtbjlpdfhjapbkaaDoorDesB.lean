/- DES over lists of bits: the tables, the keys, the rounds; that with the keys turned round it undoes itself. Plain: no program. -/
import Derived.Test.YtbjlpdfhjapbkaaDoorDesA
namespace Go.Proofs.YtbjlpdfhjapbkaaDoor.D
open Go.Proofs.YtbjlpdfhjapbkaaDoor
set_option linter.unusedVariables false

def tIP : List Int := [58, 50, 42, 34, 26, 18, 10, 2, 60, 52, 44, 36, 28, 20, 12, 4, 62, 54, 46, 38, 30, 22, 14, 6, 64, 56, 48, 40, 32, 24, 16, 8, 57, 49, 41, 33, 25, 17, 9, 1, 59, 51, 43, 35, 27, 19, 11, 3, 61, 53, 45, 37, 29, 21, 13, 5, 63, 55, 47, 39, 31, 23, 15, 7]
def tINV : List Int := [40, 8, 48, 16, 56, 24, 64, 32, 39, 7, 47, 15, 55, 23, 63, 31, 38, 6, 46, 14, 54, 22, 62, 30, 37, 5, 45, 13, 53, 21, 61, 29, 36, 4, 44, 12, 52, 20, 60, 28, 35, 3, 43, 11, 51, 19, 59, 27, 34, 2, 42, 10, 50, 18, 58, 26, 33, 1, 41, 9, 49, 17, 57, 25]
def tE : List Int := [32, 1, 2, 3, 4, 5, 4, 5, 6, 7, 8, 9, 8, 9, 10, 11, 12, 13, 12, 13, 14, 15, 16, 17, 16, 17, 18, 19, 20, 21, 20, 21, 22, 23, 24, 25, 24, 25, 26, 27, 28, 29, 28, 29, 30, 31, 32, 1]
def tP : List Int := [16, 7, 20, 21, 29, 12, 28, 17, 1, 15, 23, 26, 5, 18, 31, 10, 2, 8, 24, 14, 32, 27, 3, 9, 19, 13, 30, 6, 22, 11, 4, 25]
def tPC1 : List Int := [57, 49, 41, 33, 25, 17, 9, 1, 58, 50, 42, 34, 26, 18, 10, 2, 59, 51, 43, 35, 27, 19, 11, 3, 60, 52, 44, 36, 63, 55, 47, 39, 31, 23, 15, 7, 62, 54, 46, 38, 30, 22, 14, 6, 61, 53, 45, 37, 29, 21, 13, 5, 28, 20, 12, 4]
def tPC2 : List Int := [14, 17, 11, 24, 1, 5, 3, 28, 15, 6, 21, 10, 23, 19, 12, 4, 26, 8, 16, 7, 27, 20, 13, 2, 41, 52, 31, 37, 47, 55, 30, 40, 51, 45, 33, 48, 44, 49, 39, 56, 34, 53, 46, 42, 50, 36, 29, 32]
def turnsL : List Nat := [1, 1, 2, 2, 2, 2, 2, 2, 1, 2, 2, 2, 2, 2, 2, 1]
/-- The boxes as texts: the codes of hex digits. -/
def boxT : List (List UInt8) := [
  [69, 52, 68, 49, 50, 70, 66, 56, 51, 65, 54, 67, 53, 57, 48, 55, 48, 70, 55, 52, 69, 50, 68, 49, 65, 54, 67, 66, 57, 53, 51, 56, 52, 49, 69, 56, 68, 54, 50, 66, 70, 67, 57, 55, 51, 65, 53, 48, 70, 67, 56, 50, 52, 57, 49, 55, 53, 66, 51, 69, 65, 48, 54, 68],
  [70, 49, 56, 69, 54, 66, 51, 52, 57, 55, 50, 68, 67, 48, 53, 65, 51, 68, 52, 55, 70, 50, 56, 69, 67, 48, 49, 65, 54, 57, 66, 53, 48, 69, 55, 66, 65, 52, 68, 49, 53, 56, 67, 54, 57, 51, 50, 70, 68, 56, 65, 49, 51, 70, 52, 50, 66, 54, 55, 67, 48, 53, 69, 57],
  [65, 48, 57, 69, 54, 51, 70, 53, 49, 68, 67, 55, 66, 52, 50, 56, 68, 55, 48, 57, 51, 52, 54, 65, 50, 56, 53, 69, 67, 66, 70, 49, 68, 54, 52, 57, 56, 70, 51, 48, 66, 49, 50, 67, 53, 65, 69, 55, 49, 65, 68, 48, 54, 57, 56, 55, 52, 70, 69, 51, 66, 53, 50, 67],
  [55, 68, 69, 51, 48, 54, 57, 65, 49, 50, 56, 53, 66, 67, 52, 70, 68, 56, 66, 53, 54, 70, 48, 51, 52, 55, 50, 67, 49, 65, 69, 57, 65, 54, 57, 48, 67, 66, 55, 68, 70, 49, 51, 69, 53, 50, 56, 52, 51, 70, 48, 54, 65, 49, 68, 56, 57, 52, 53, 66, 67, 55, 50, 69],
  [50, 67, 52, 49, 55, 65, 66, 54, 56, 53, 51, 70, 68, 48, 69, 57, 69, 66, 50, 67, 52, 55, 68, 49, 53, 48, 70, 65, 51, 57, 56, 54, 52, 50, 49, 66, 65, 68, 55, 56, 70, 57, 67, 53, 54, 51, 48, 69, 66, 56, 67, 55, 49, 69, 50, 68, 54, 70, 48, 57, 65, 52, 53, 51],
  [67, 49, 65, 70, 57, 50, 54, 56, 48, 68, 51, 52, 69, 55, 53, 66, 65, 70, 52, 50, 55, 67, 57, 53, 54, 49, 68, 69, 48, 66, 51, 56, 57, 69, 70, 53, 50, 56, 67, 51, 55, 48, 52, 65, 49, 68, 66, 54, 52, 51, 50, 67, 57, 53, 70, 65, 66, 69, 49, 55, 54, 48, 56, 68],
  [52, 66, 50, 69, 70, 48, 56, 68, 51, 67, 57, 55, 53, 65, 54, 49, 68, 48, 66, 55, 52, 57, 49, 65, 69, 51, 53, 67, 50, 70, 56, 54, 49, 52, 66, 68, 67, 51, 55, 69, 65, 70, 54, 56, 48, 53, 57, 50, 54, 66, 68, 56, 49, 52, 65, 55, 57, 53, 48, 70, 69, 50, 51, 67],
  [68, 50, 56, 52, 54, 70, 66, 49, 65, 57, 51, 69, 53, 48, 67, 55, 49, 70, 68, 56, 65, 51, 55, 52, 67, 53, 54, 66, 48, 69, 57, 50, 55, 66, 52, 49, 57, 67, 69, 50, 48, 54, 65, 68, 70, 51, 53, 56, 50, 49, 69, 55, 52, 65, 56, 68, 70, 67, 57, 48, 51, 53, 54, 66]]
def hexv (c : Int) : Int := if c ≤ 57 then c - 48 else c - 65 + 10
def nib (v : Int) : List Int := [v / 8 % 2, v / 4 % 2, v / 2 % 2, v % 2]
/-- The code at place i of box k. -/
def boxC (k i : Nat) : Int := (((boxT.getD k []).getD i 0).toNat : Int)
/-- Where six bits look. -/
def place (g : List Int) : Int := (nth g 0 * 2 + nth g 5) * 16 + (nth g 1 * 8 + nth g 2 * 4 + nth g 3 * 2 + nth g 4)
def boxB (k : Nat) (g : List Int) : List Int := nib (hexv (boxC k (place g).toNat))
def boxesTo (x : List Int) : Nat → List Int
  | 0 => []
  | k + 1 => boxesTo x k ++ boxB k (x.drop (6 * k))
def boxesB (x : List Int) : List Int := boxesTo x 8
def roundB (r k : List Int) : List Int := pickB (boxesB (xorB (pickB r tE) k)) tP
def turnB (n : Nat) (l : List Int) : List Int := l.drop n ++ l.take n
def keysFrom : List Nat → List Int → List Int → List (List Int)
  | [], _, _ => []
  | n :: ns, c, d => pickB (turnB n c ++ turnB n d) tPC2 :: keysFrom ns (turnB n c) (turnB n d)
def keysB (key : List Int) : List (List Int) := keysFrom turnsL ((pickB (bitsOf key) tPC1).take 28) ((pickB (bitsOf key) tPC1).drop 28)
def feist : List (List Int) → List Int × List Int → List Int × List Int
  | [], p => p
  | k :: ks, p => feist ks (p.2, xorB p.1 (roundB p.2 k))
def swapB (p : List Int × List Int) : List Int × List Int := (p.2, p.1)
def desB (ks : List (List Int)) (x : List Int) : List Int := pickB ((feist ks ((pickB x tIP).take 32, (pickB x tIP).drop 32)).2 ++ (feist ks ((pickB x tIP).take 32, (pickB x tIP).drop 32)).1) tINV
def dirB (dec : Bool) (ks : List (List Int)) : List (List Int) := if dec then ks.reverse else ks
/-- DES of a block of 8 bytes under a key of 8. -/
def desL (key block : List Int) (dec : Bool) : List Int := unbits (desB (dirB dec (keysB key)) (bitsOf block))

theorem nib_bits (v : Int) : Bits (nib v) := by
  intro y hy
  simp only [nib, List.mem_cons, List.not_mem_nil, or_false] at hy
  rcases hy with rfl | rfl | rfl | rfl <;> omega
theorem boxesTo_bits (x : List Int) (k : Nat) : Bits (boxesTo x k) := by
  induction k with
  | zero => exact Bits.nil
  | succ k ih => exact ih.append (nib_bits _)
theorem boxesTo_length (x : List Int) (k : Nat) : (boxesTo x k).length = 4 * k := by
  induction k with
  | zero => rfl
  | succ k ih => rw [boxesTo, List.length_append, ih]; simp [boxB, nib]; omega
theorem roundB_bits (r k : List Int) : Bits (roundB r k) := pickB_bits (boxesTo_bits _ _) _
theorem roundB_length (r k : List Int) : (roundB r k).length = 32 := pickB_length _ _
theorem turnB_length (n : Nat) (l : List Int) : (turnB n l).length = l.length := by simp [turnB]; omega
theorem turnB_bits {l : List Int} (h : Bits l) (n : Nat) : Bits (turnB n l) := (h.drop n).append (h.take n)
theorem keysFrom_good (ns : List Nat) : ∀ (c d : List Int), Bits c → Bits d → ∀ k ∈ keysFrom ns c d, Bits k ∧ k.length = 48 := by
  induction ns with
  | nil => intro c d _ _ k hk; simp [keysFrom] at hk
  | cons n ns ih =>
    intro c d hc hd k hk
    simp only [keysFrom, List.mem_cons] at hk
    rcases hk with rfl | hk
    · exact ⟨pickB_bits ((turnB_bits hc n).append (turnB_bits hd n)) _, pickB_length _ _⟩
    · exact ih _ _ (turnB_bits hc n) (turnB_bits hd n) k hk
theorem keysFrom_length (ns : List Nat) : ∀ (c d : List Int), (keysFrom ns c d).length = ns.length := by
  induction ns with
  | nil => intro c d; rfl
  | cons n ns ih => intro c d; simp [keysFrom, ih]
theorem keysB_good (key : List Int) : ∀ k ∈ keysB key, Bits k ∧ k.length = 48 :=
  keysFrom_good _ _ _ ((pickB_bits (bitsOf_bits key) _).take _) ((pickB_bits (bitsOf_bits key) _).drop _)
theorem keysB_length (key : List Int) : (keysB key).length = 16 := keysFrom_length _ _ _
theorem dirB_good {dec : Bool} {ks : List (List Int)} (h : ∀ k ∈ ks, Bits k ∧ k.length = 48) : ∀ k ∈ dirB dec ks, Bits k ∧ k.length = 48 := by
  unfold dirB
  split
  · intro k hk; exact h k (List.mem_reverse.1 hk)
  · exact h
theorem feist_good (ks : List (List Int)) : ∀ (p : List Int × List Int), p.1.length = 32 → p.2.length = 32 → Bits p.1 → Bits p.2 →
    (feist ks p).1.length = 32 ∧ (feist ks p).2.length = 32 ∧ Bits (feist ks p).1 ∧ Bits (feist ks p).2 := by
  induction ks with
  | nil => intro p h1 h2 h3 h4; exact ⟨h1, h2, h3, h4⟩
  | cons k ks ih =>
    intro p h1 h2 h3 h4
    exact ih _ h2 (by simp only []; rw [xorB_length _ _ (by rw [roundB_length]; exact h1)]; exact h1) h4 (xorB_bits _ _)
theorem feist_append (a b : List (List Int)) (p : List Int × List Int) : feist (a ++ b) p = feist b (feist a p) := by
  induction a generalizing p with
  | nil => rfl
  | cons k ks ih => exact ih _
theorem xorB_twice (a b : List Int) (ha : Bits a) (hb : Bits b) (h : a.length = b.length) : xorB (xorB a b) b = a := by
  apply List.ext_getElem
  · rw [xorB_length _ _ (by rw [xorB_length _ _ h]; exact h), xorB_length _ _ h]
  · intro i h1 h2
    have hbi : i < b.length := by omega
    have hx := ha a[i] (List.getElem_mem h2)
    have hy := hb b[i] (List.getElem_mem hbi)
    simp only [xorB, List.getElem_zipWith]
    generalize b[i] = y at hy
    generalize a[i] = x at hx
    unfold xorb
    by_cases e : x = y
    · subst e
      rw [if_pos rfl]
      split <;> omega
    · rw [if_neg e]
      split <;> omega
theorem feist_undo (ks : List (List Int)) : ∀ (p : List Int × List Int), p.1.length = 32 → p.2.length = 32 → Bits p.1 → Bits p.2 →
    feist ks.reverse (swapB (feist ks p)) = swapB p := by
  induction ks with
  | nil => intro p _ _ _ _; rfl
  | cons k ks ih =>
    intro p h1 h2 h3 h4
    rw [List.reverse_cons, feist_append]
    have e := ih (p.2, xorB p.1 (roundB p.2 k)) h2 (by simp only []; rw [xorB_length _ _ (by rw [roundB_length]; exact h1)]; exact h1) h4 (xorB_bits _ _)
    simp only [feist]
    rw [e]
    simp only [swapB]
    rw [xorB_twice _ _ h3 (roundB_bits _ _) (by rw [roundB_length]; exact h1)]
theorem pick_pick (bs t u v : List Int) (h : ∀ i, i < u.length → nth t ((nth u i).toNat - 1) = nth v i) (hl : u.length = v.length) (hr : ∀ i, i < u.length → (nth u i).toNat - 1 < t.length) : pickB (pickB bs t) u = pickB bs v := by
  apply List.ext_getElem
  · simp [pickB, hl]
  · intro i h1 h2
    simp only [pickB, List.length_map] at h1 h2
    have hi := h i h1
    have hri := hr i h1
    simp only [pickB, List.getElem_map]
    rw [nth_at u i h1] at hi hri
    rw [nth_at v i h2] at hi
    rw [nth_at _ _ (by simpa using hri), List.getElem_map, ← hi, nth_at t _ hri]
def tID : List Int := (List.range 64).map fun (i : Nat) => (i : Int) + 1
theorem pick_id (bs : List Int) (h : bs.length = 64) : pickB bs tID = bs := by
  apply List.ext_getElem
  · simp [pickB, tID, h]
  · intro i h1 h2
    have e : ((i : Int) + 1).toNat - 1 = i := by omega
    simp only [pickB, tID, List.map_map, List.getElem_map, List.getElem_range, Function.comp_def]
    rw [e, nth_at bs i h2]
theorem inv_ip (bs : List Int) (h : bs.length = 64) : pickB (pickB bs tIP) tINV = bs := by
  rw [pick_pick bs tIP tINV tID (by decide +kernel) (by decide +kernel) (by decide +kernel), pick_id bs h]
theorem ip_inv (bs : List Int) (h : bs.length = 64) : pickB (pickB bs tINV) tIP = bs := by
  rw [pick_pick bs tINV tIP tID (by decide +kernel) (by decide +kernel) (by decide +kernel), pick_id bs h]
theorem desB_bits {x : List Int} (ks : List (List Int)) (hx : Bits x) (hl : x.length = 64) : Bits (desB ks x) ∧ (desB ks x).length = 64 := by
  have hp := pickB_bits hx tIP
  have hlen : (pickB x tIP).length = 64 := pickB_length _ _
  obtain ⟨h1, h2, h3, h4⟩ := feist_good ks ((pickB x tIP).take 32, (pickB x tIP).drop 32) (by simp [hlen]) (by simp [hlen]) (hp.take _) (hp.drop _)
  exact ⟨pickB_bits (h4.append h3) _, pickB_length _ _⟩
theorem desB_undo (ks : List (List Int)) (x : List Int) (hx : Bits x) (hl : x.length = 64) : desB ks.reverse (desB ks x) = x := by
  have hp := pickB_bits hx tIP
  have hlen : (pickB x tIP).length = 64 := pickB_length _ _
  obtain ⟨h1, h2, h3, h4⟩ := feist_good ks ((pickB x tIP).take 32, (pickB x tIP).drop 32) (by simp [hlen]) (by simp [hlen]) (hp.take _) (hp.drop _)
  have hu := feist_undo ks ((pickB x tIP).take 32, (pickB x tIP).drop 32) (by simp [hlen]) (by simp [hlen]) (hp.take _) (hp.drop _)
  have e : pickB (desB ks x) tIP = (feist ks ((pickB x tIP).take 32, (pickB x tIP).drop 32)).2 ++ (feist ks ((pickB x tIP).take 32, (pickB x tIP).drop 32)).1 := by
    unfold desB
    rw [ip_inv _ (by rw [List.length_append, h1, h2])]
  unfold desB at e ⊢
  rw [e, List.take_left' h2, List.drop_left' h2]
  have e2 : ((feist ks ((pickB x tIP).take 32, (pickB x tIP).drop 32)).2, (feist ks ((pickB x tIP).take 32, (pickB x tIP).drop 32)).1) = swapB (feist ks ((pickB x tIP).take 32, (pickB x tIP).drop 32)) := rfl
  rw [e2, hu]
  simp only [swapB]
  rw [List.take_append_drop, inv_ip x hl]
theorem desL_length (key block : List Int) (dec : Bool) (h : block.length = 8) : (desL key block dec).length = 8 :=
  unbits_length 8 _ (desB_bits _ (bitsOf_bits block) (by rw [bitsOf_length]; omega)).2
theorem desL_bytes (key block : List Int) (dec : Bool) (h : block.length = 8) : Bytes (desL key block dec) :=
  unbits_bytes 8 _ (desB_bits _ (bitsOf_bits block) (by rw [bitsOf_length]; omega)).2 (desB_bits _ (bitsOf_bits block) (by rw [bitsOf_length]; omega)).1
/-- With the keys in the opposite order DES undoes itself. -/
theorem desL_undo (key block : List Int) (dec : Bool) (h : block.length = 8) (hb : Bytes block) : desL key (desL key block dec) (!dec) = block := by
  have h64 : (bitsOf block).length = 64 := by rw [bitsOf_length]; omega
  obtain ⟨h1, h2⟩ := desB_bits (dirB dec (keysB key)) (bitsOf_bits block) h64
  unfold desL
  rw [bitsOf_unbits 8 _ h2 h1]
  have e : dirB (!dec) (keysB key) = (dirB dec (keysB key)).reverse := by cases dec <;> simp [dirB]
  rw [e, desB_undo _ _ (bitsOf_bits block) h64, unbits_bitsOf block hb]
end Go.Proofs.YtbjlpdfhjapbkaaDoor.D
