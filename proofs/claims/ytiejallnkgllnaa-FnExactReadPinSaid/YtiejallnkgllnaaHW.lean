/- Small words for walks by hand over the print's words: a whole block that reads as numbers, as a row of the call's own; a fact hidden. -/
import Derived.Test.YtiejallnkgllnaaWMore
import Derived.Test.YtiejallnkgllnaaProg
import Derived.WalkKit
import Derived.WalkSpells
import Derived.Laws.CopyOwn
import Derived.Laws.MakeOwn
import Derived.KernelRfl
namespace Go.Proofs.Ytiejallnkgllnaa
open Go.RowKit Go.Proofs.YtiejallnkgllnaaW.PrintWords Go.Proofs.YtiejallnkgllnaaW.PrintLast Go.Proofs.YtiejallnkgllnaaW.PrintMore

theorem info5 : (Try.prog.info? 5).map (fun i => (i.zero, i.size, i.bytes)) = some (some (.int .u8 0), 1, 1) := by kernel_rfl
theorem size5 : (Try.prog.info? 5).map (·.size) = some 1 := by kernel_rfl

/-- Element i, a word that the walk leaves alone. -/
def nth (l : List Int) (i : Nat) : Int := l.getD i 0
theorem nth_at (l : List Int) (i : Nat) (h : i < l.length) : nth l i = l[i] := by simp [nth, List.getD_eq_getElem?_getD, h]
theorem rd_nth (l : List Int) (i : Nat) : rd l (i : Int) = nth l i := by simp [rd, nth]
/-- A block that holds just these numbers. -/
def Blk (w : World) (g : Nat) (k : IntKind) (t : TypeId) (xs : List Int) : Prop := w.heap[g]? = some (.cells (nums k xs).toArray t (0, 0))
theorem Blk.R {w : World} {g base n : Nat} {k : IntKind} {e : TypeId} {xs : List Int} (h : Blk w g k e xs) (hb : base ≤ g) (hn : xs.length = n) (hm : n ≤ 9223372036854775807) :
    Kd.R (Kd.int k) e w base (fun _ => True) (.slice (some ⟨g, 0, none⟩) n n) xs := by
  subst hn
  refine Kd.R_of_own (enc := Value.int k) (h1 := fun _ => rfl) ⟨by simp [encs], .inr ⟨g, xs.length, (nums k xs).toArray, rfl, hb, h, Nat.le_refl _, by simpa [maxLen] using hm, by simp [nums], ?_⟩⟩ (fun _ _ => trivial)
  simp only [nums, encs, Nat.mul_one]
  exact List.take_of_length_le (by simp)
theorem Blk.cell {w : World} {g : Nat} {k : IntKind} {t : TypeId} {xs : List Int} (h : Blk w g k t xs) (i : Nat) (hi : i < xs.length) : w.cell? ⟨g, i, none⟩ = some (.int k (nth xs i)) := by
  rw [blk_cell h]
  simp [nums, nth, List.getD_eq_getElem?_getD, hi]
theorem Blk.free {w : World} {g : Nat} {k : IntKind} {t : TypeId} {xs : List Int} (h : Blk w g k t xs) (i : Nat) : w.frozen? ⟨g, i, none⟩ = false := blk_frozen h i
theorem Blk.set {w : World} {g : Nat} {k : IntKind} {t : TypeId} {xs : List Int} (h : Blk w g k t xs) (i : Nat) (x : Int) : Blk (w.setCell ⟨g, i, none⟩ (.int k x)) g k t (xs.set i x) := by
  have := blk_set h i (.int k x)
  rw [Blk, this]
  simp [nums, List.map_set]
theorem Blk.alloc {w : World} {g : Nat} {k : IntKind} {t : TypeId} {xs : List Int} (h : Blk w g k t xs) (o : Obj) : Blk (w.alloc o) g k t xs := blk_alloc h o
theorem Blk.below {w w1 : World} {g : Nat} {k : IntKind} {t : TypeId} {xs : List Int} (h : Blk w g k t xs) (hb : Below w.heap.size w w1) : Blk w1 g k t xs := blk_below h hb
theorem Blk.far {w : World} {g : Nat} {k : IntKind} {t : TypeId} {xs : List Int} (h : Blk w g k t xs) {p : Addr} (hp : g ≠ p.block) (u : Value) : Blk (w.setCell p u) g k t xs := blk_far h hp u
theorem Blk.lt {w : World} {g : Nat} {k : IntKind} {t : TypeId} {xs : List Int} (h : Blk w g k t xs) : g < w.heap.size := blk_lt h
theorem Blk.new (w : World) (k : IntKind) (t : TypeId) (xs : List Int) : Blk (w.alloc (.cells (nums k xs).toArray t)) w.heap.size k t xs := blk_new w _
theorem Blk.grown {w w1 : World} {g : Nat} {k : IntKind} {t : TypeId} {xs : List Int} {row : Option Nat} (h : Blk w g k t xs) (hg : w.grownBy w1 row) (hne : some g ≠ row) : Blk w1 g k t xs := blk_grown h hg hne
theorem made_nums (k : IntKind) (n : Nat) : madeCells #[Value.int k 0] n = (nums k (List.replicate n 0)).toArray := by
  apply Array.ext
  · simp [nums, madeCells]
  · intro i h1 h2
    simp [nums, madeCells, Nat.mod_one]
theorem C_cells {w : World} {k : IntKind} {A : Option Addr} {l : List Int} (h : Kd.C (Kd.int k) w A l.length l) (hp : 0 < l.length) : ∃ ad, A = some ad ∧ ∀ j v, (nums k l)[j]? = some v → w.cell? (ad.add j) = some v := by
  obtain ⟨ad, rfl, _⟩ := Kd.at_int h 0 (by omega) (by omega)
  refine ⟨ad, rfl, fun j v hv => ?_⟩
  have hj : j < l.length := by
    rcases Nat.lt_or_ge j l.length with h' | h'
    · exact h'
    · simp [nums, List.getElem?_eq_none h'] at hv
  obtain ⟨ad', he, hc⟩ := Kd.at_int h (j : Int) (by omega) (by omega)
  cases he
  rw [Int.toNat_natCast] at hc
  rw [hc]
  simp [nums, hj] at hv
  subst hv
  simp [rd, List.getD_eq_getElem?_getD, hj]
theorem nums_one (k : IntKind) (l : List Int) : ∀ v ∈ nums k l, v.oneCell' = true := by
  intro v hv
  simp only [nums, List.mem_map] at hv
  obtain ⟨x, _, rfl⟩ := hv
  rfl
end Go.Proofs.Ytiejallnkgllnaa
