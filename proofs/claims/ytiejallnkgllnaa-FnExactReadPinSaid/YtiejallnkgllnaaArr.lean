/- Words for walks by hand over arrays of whole numbers: an element read by index. -/
import Derived.Test.YtiejallnkgllnaaHW
namespace Go.Proofs.Ytiejallnkgllnaa
open Go.RowKit Go.Proofs.YtiejallnkgllnaaW.PrintWords Go.Proofs.YtiejallnkgllnaaW.PrintLast Go.Proofs.YtiejallnkgllnaaW.PrintMore
set_option linter.unusedVariables false

theorem run_index_nums {P : Program} {t e : TypeId} {k : IntKind} {n : Nat} (ht : P.underlying t = some (.array n e)) (he : P.underlying e = some (.int k)) (hs : (P.info? e).map (·.size) = some 1) (xs : List Int) (i : Nat) (hl : xs.length = n) (hi : i < n) (W : World) :
    (Instr.index t (.agg (nums k xs).toArray) (.int .i64 (i : Int))).run P W = .ok (.int k (nth xs i)) W := by
  obtain ⟨info, hinfo, hz⟩ := Option.map_eq_some_iff.1 hs
  have hx : (nums k xs)[i]? = some (.int k (nth xs i)) := by simp [nums, nth, List.getD_eq_getElem?_getD, hl, hi]
  simp [Instr.index, asIntOf, run_underlying ht, part, isAgg, run_underlying he, sizeOf, typeInfo, hinfo, hz, hi, hx]
theorem Blk.setRow {w : World} {g : Nat} {k : IntKind} {t : TypeId} {xs : List Int} (h : Blk w g k t xs) (ys : List Int) : Blk (w.setRow g (nums k ys).toArray) g k t ys := setRow_heap w g _ _ t (0, 0) h
theorem Blk.setRow_far {w : World} {g g' : Nat} {k : IntKind} {t : TypeId} {xs : List Int} (h : Blk w g k t xs) (hne : g ≠ g') (cs : Array Value) : Blk (w.setRow g' cs) g k t xs := (setRow_other w g' g cs hne).trans h
theorem nums_all (k : IntKind) (l : List Int) : (nums k l).toArray.all (·.oneCell') = true := by
  simp only [List.all_toArray, List.all_eq_true]
  exact nums_one k l
section
variable {P : Program} {ops : Array Oper} {rest : List Oper} {o : Oper} {a : Act} {w : World} {Q : Exit → Act → World → Prop}
/-- A whole array read out of its block. -/
theorem wpList_load_blk (hgd : o.guard = none) (ty : TypeId) (x : Operand) (ho : o.op = .load ty x) (g : Nat) (hx : a.eval x = .pointer (some ⟨g, 0, none⟩)) {n : Nat} {e : TypeId} (hu : P.underlying ty = some (.array n e)) (hi : (P.info? ty).map (·.size) = some n)
    {k : IntKind} {t : TypeId} {xs : List Int} (hb : Blk w g k t xs) (hl : xs.length = n) (h : wpList P ops Q rest (a.put o.dst (.agg (nums k xs).toArray)) w) : wpList P ops Q (o :: rest) a w :=
  wpList_load_row hgd ty x ho g hx t (nums k xs).toArray (0, 0) _ hb hu rfl (by rw [hi]; simp [nums, hl]) h
/-- A whole array stored into its block. -/
theorem wpList_store_blk (hgd : o.guard = none) (ty : TypeId) (x y : Operand) (ho : o.op = .store ty x y) (g : Nat) (hx : a.eval x = .pointer (some ⟨g, 0, none⟩)) {n : Nat} (hi : (P.info? ty).map (·.size) = some n)
    {k : IntKind} {t : TypeId} {xs ys : List Int} (hy : a.eval y = .agg (nums k ys).toArray) (hb : Blk w g k t xs) (hl : xs.length = n) (hl2 : ys.length = n) (h : wpList P ops Q rest (a.put o.dst undef) (w.setRow g (nums k ys).toArray)) : wpList P ops Q (o :: rest) a w :=
  wpList_store_row hgd ty x y ho g (nums k ys).toArray hx hy t (nums k xs).toArray hb (by rw [hi]; simp [nums, hl2]) (by simp [nums, hl, hl2]) (nums_all k ys) h
/-- A result that is an array in its block. -/
theorem results_blk {fn : Func} {p : Tmp} {ty : TypeId} (h : fn.results = #[.cell p ty]) (tmps : Array Value) (w : World) (g : Nat) {n : Nat} {e : TypeId} (hu : P.underlying ty = some (.array n e)) (hi : (P.info? ty).map (·.size) = some n)
    {k : IntKind} {t : TypeId} {xs : List Int} (hp : tmps.getD p undef = .pointer (some ⟨g, 0, none⟩)) (hb : Blk w g k t xs) (hl : xs.length = n) :
    (results fn tmps).run P w = .ok (.agg (nums k xs).toArray) w :=
  results_cell_row h tmps w g t (nums k xs).toArray (0, 0) _ hp hb hu rfl (by rw [hi]; simp [nums, hl])
end
end Go.Proofs.Ytiejallnkgllnaa
