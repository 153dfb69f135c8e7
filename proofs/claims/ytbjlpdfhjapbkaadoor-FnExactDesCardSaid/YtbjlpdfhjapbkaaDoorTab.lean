/- The tables as they lie in the heap; that they still lie there behind calls that only add. -/
import Derived.Test.YtbjlpdfhjapbkaaDoorBlockOf
import Derived.Test.YtbjlpdfhjapbkaaDoorDesC
import Derived.Deep.MidRow
namespace Go.Proofs.YtbjlpdfhjapbkaaDoor
open Go.RowKit Go.Proofs.YtbjlpdfhjapbkaaDoorW.PrintWords Go.Proofs.YtbjlpdfhjapbkaaDoorW.PrintLast Go.Proofs.YtbjlpdfhjapbkaaDoorW.PrintMore Go.Proofs.YtbjlpdfhjapbkaaDoor.D
set_option linter.unusedVariables false

/-- A variable that holds a slice of bytes. -/
def Sl (w : World) (g : Nat) (l : List Int) : Prop := ∃ A c, w.cell? ⟨g, 0, none⟩ = some (.slice A l.length c) ∧ l.length ≤ c ∧ Kd.C (Kd.int .u8) w A l.length l
theorem Sl.below {w w1 : World} {g : Nat} {l : List Int} (h : Sl w g l) (hb : Below w.heap.size w w1) : Sl w1 g l := by
  obtain ⟨A, c, h1, h2, h3⟩ := h
  exact ⟨A, c, (hb.cell (World.block_lt_of_cell? w _ h1)).trans h1, h2, Kd.C_below h3 hb⟩
theorem rangeAt_below {w w1 : World} {g o : Nat} {cs : List Value} (h : w.rangeAt g o cs) (hb : Below w.heap.size w w1) : w1.rangeAt g o cs :=
  fun j v hv => (hb.cell (World.block_lt_of_cell? w _ (h j v hv))).trans (h j v hv)
structure Tab (w : World) : Prop where
  ip : Sl w 1 tIP
  e : Sl w 2 tE
  p : Sl w 7 tP
  pc1 : Sl w 3 tPC1
  pc2 : Sl w 5 tPC2
  turns : w.rangeAt 4 0 (nums .i64 (turnsL.map fun (n : Nat) => (n : Int)))
  boxes : w.rangeAt 6 0 (boxT.map fun b => .string ⟨b.toArray⟩)
theorem Tab.below {w w1 : World} (h : Tab w) (hb : Below w.heap.size w w1) : Tab w1 :=
  ⟨h.ip.below hb, h.e.below hb, h.p.below hb, h.pc1.below hb, h.pc2.below hb, rangeAt_below h.turns hb, rangeAt_below h.boxes hb⟩
theorem Blk.range {w : World} {g : Nat} {k : IntKind} {t : TypeId} {xs : List Int} (h : Blk w g k t xs) : w.rangeAt g 0 (nums k xs) := by
  intro j v hv
  have hj : j < xs.length := by
    rcases Nat.lt_or_ge j xs.length with h' | h'
    · exact h'
    · simp [nums, List.getElem?_eq_none h'] at hv
  rw [Nat.zero_add, h.cell j hj]
  simp [nums, hj] at hv
  subst hv
  rw [nth_at _ _ hj]
theorem Blk.loadAt {P : Program} {w : World} {g : Nat} {k : IntKind} {t ty : TypeId} {xs : List Int} (h : Blk w g k t xs) {n : Nat} {e : TypeId} (hu : P.underlying ty = some (.array n e)) (hi : (P.info? ty).map (·.size) = some n) (hl : xs.length = n) :
    (Instr.loadAt ty (.pointer (some ⟨g, 0, none⟩))).run P w = .ok (.agg (nums k xs).toArray) w :=
  run_loadAt_mid w g 0 ty (nums k xs) _ h.range hu rfl (by rw [hi]; simp [nums, hl])
end Go.Proofs.YtbjlpdfhjapbkaaDoor
