/- What the row's condition 'laid' gives the walks: the tables as Tab says. -/
import Derived.Test.YtbjlpdfhjapbkaaDoorRows
import Derived.Test.YtbjlpdfhjapbkaaDoorDesW
import Derived.ProofKit
import Derived.LaidMore
import Derived.OpenShut
import Derived.Lib.LaidTab
import Derived.MakeChecks
namespace Go.Proofs.YtbjlpdfhjapbkaaDoor
open Go.ChangeShapes Go.WideShapes Go.ChangeAt Go.RowKit Go.Proofs.YtbjlpdfhjapbkaaDoorW.PrintWords Go.Proofs.YtbjlpdfhjapbkaaDoor.D
set_option linter.unusedVariables false

theorem lits_inj {k : IntKind} : ∀ (a b : List Int), (lits k a : List (DataW Unit)) = lits k b → a = b
  | [], [], _ => rfl
  | [], _ :: _, h => by cases h
  | _ :: _, [], h => by cases h
  | x :: a, y :: b, h => by
    have h1 : (DataW.lit (.int k x) : DataW Unit) :: lits k a = .lit (.int k y) :: lits k b := h
    injection h1 with h2 h3
    injection h2 with h4
    injection h4 with _ h5
    rw [h5, lits_inj a b h3]
/-- A listed variable that holds a slice of bytes. -/
theorem sl_of {W : World} {n : String} {g : Nat} {cs : Array Value} {fuel : Nat} {p : List MemPlace} {enc : TypeId × Value → Unit} {sp : Nat → Bool} {held : Bool} (l : List Int) (hg : Tryd.prog.globalNamed n = some g) (hv : W.var? Tryd.prog n = some cs)
    (hd : DataW.trod enc Tryd.prog W 0 sp held fuel 22 cs.toList = some (.slice (lits .u8 l) [], p)) (hsp : ∀ b, sp b = true) : Sl W g l := by
  have c5 : Tryd.prog.cellsOf 5 = 1 := by kernel_rfl
  rcases open_ints Tryd.underlying22 Tryd.underlying5 c5 hd with ⟨_, hx⟩ | ⟨a, len, cap, zs, hcs, _, hl, hm, hz, hx, hcell, _⟩
  · cases hx
  · have hx1 := congrArg Prod.fst hx
    simp only [DataW.slice.injEq] at hx1
    rw [hsp, if_pos rfl] at hz
    have hlen : len ≤ zs.length := by omega
    have hzt : l = zs.take len := lits_inj _ _ hx1.1
    have hll : l.length = len := by rw [hzt, List.length_take]; omega
    have hcell0 : W.cell? ⟨g, 0, none⟩ = some (.slice (some a) len cap) := by
      have := World.var?_cell hg hv 0
      rw [Array.eq_one_of_toList hcs] at this
      simpa using this
    refine ⟨some a, cap, by rw [hll]; exact hcell0, by omega, rfl, by simp only [maxLen] at hm; omega, fun _ => ⟨a, rfl, fun j q hq => ⟨[.int .u8 q], rfl, rfl, fun i u hu => ?_⟩⟩⟩
    have hi : i = 0 := by
      rcases i with _ | i
      · rfl
      · simp at hu
    subst hi
    simp only [List.getElem?_cons_zero, Option.some.injEq] at hu
    subst hu
    have hj : j < l.length := (List.getElem?_eq_some_iff.1 hq).1
    have h1 := hcell j (by omega)
    have h2 : zs.getD j 0 = q := by
      rw [hzt, List.getElem?_take_of_lt (by omega)] at hq
      rw [List.getD_eq_getElem?_getD, hq]
      rfl
    rw [h2] at h1
    have hs : (Kd.int .u8).sz = 1 := rfl
    rw [hs]
    simpa using h1
theorem var_range {W : World} {n : String} {g : Nat} {cs : Array Value} (hg : Tryd.prog.globalNamed n = some g) (hv : W.var? Tryd.prog n = some cs) : W.rangeAt g 0 cs.toList := by
  intro j v hj
  rw [Nat.zero_add, World.var?_cell hg hv j]
  simpa using hj
theorem of_laid {W : World} (h : laidMetH Tryd.prog Rows.fnExactDesRow.laid W) : Tab W := by
  rw [MakeChecks.laidMetH_plain _ _ _ (by kernel_rfl)] at h
  obtain ⟨ps, ⟨g0, t0, cs0, f0, p0, q0, hg0, ht0, hv0, hd0, ⟨g1, t1, cs1, f1, p1, q1, hg1, ht1, hv1, hd1, ⟨g2, t2, cs2, f2, p2, q2, hg2, ht2, hv2, hd2, ⟨g3, t3, cs3, f3, p3, q3, hg3, ht3, hv3, hd3, ⟨g4, t4, cs4, f4, p4, q4, hg4, ht4, hv4, hd4, ⟨g5, t5, cs5, f5, p5, q5, hg5, ht5, hv5, hd5, ⟨g6, t6, cs6, f6, p6, q6, hg6, ht6, hv6, hd6, _, _⟩, _⟩, _⟩, _⟩, _⟩, _⟩, _⟩, _, _⟩ := h
  obtain rfl := Option.some.inj ((show Tryd.prog.globalNamed "loop.example/s01728/impl.tableIP" = some 1 by kernel_rfl).symm.trans hg0)
  obtain rfl := Option.some.inj ((show Tryd.prog.globalNamed "loop.example/s01728/impl.tableE" = some 2 by kernel_rfl).symm.trans hg1)
  obtain rfl := Option.some.inj ((show Tryd.prog.globalNamed "loop.example/s01728/impl.tableP" = some 7 by kernel_rfl).symm.trans hg2)
  obtain rfl := Option.some.inj ((show Tryd.prog.globalNamed "loop.example/s01728/impl.tablePC1" = some 3 by kernel_rfl).symm.trans hg3)
  obtain rfl := Option.some.inj ((show Tryd.prog.globalNamed "loop.example/s01728/impl.tablePC2" = some 5 by kernel_rfl).symm.trans hg4)
  obtain rfl := Option.some.inj ((show Tryd.prog.globalNamed "loop.example/s01728/impl.turns" = some 4 by kernel_rfl).symm.trans hg5)
  obtain rfl := Option.some.inj ((show Tryd.prog.globalNamed "loop.example/s01728/impl.boxes" = some 6 by kernel_rfl).symm.trans hg6)
  obtain rfl := Option.some.inj ((show (Tryd.prog.globals[1]?).map (·.type) = some 22 by kernel_rfl).symm.trans ht0)
  obtain rfl := Option.some.inj ((show (Tryd.prog.globals[2]?).map (·.type) = some 22 by kernel_rfl).symm.trans ht1)
  obtain rfl := Option.some.inj ((show (Tryd.prog.globals[7]?).map (·.type) = some 22 by kernel_rfl).symm.trans ht2)
  obtain rfl := Option.some.inj ((show (Tryd.prog.globals[3]?).map (·.type) = some 22 by kernel_rfl).symm.trans ht3)
  obtain rfl := Option.some.inj ((show (Tryd.prog.globals[5]?).map (·.type) = some 22 by kernel_rfl).symm.trans ht4)
  obtain rfl := Option.some.inj ((show (Tryd.prog.globals[4]?).map (·.type) = some 77 by kernel_rfl).symm.trans ht5)
  obtain rfl := Option.some.inj ((show (Tryd.prog.globals[6]?).map (·.type) = some 79 by kernel_rfl).symm.trans ht6)
  refine ⟨sl_of tIP hg0 hv0 hd0 (fun _ => rfl), sl_of tE hg1 hv1 hd1 (fun _ => rfl), sl_of tP hg2 hv2 hd2 (fun _ => rfl), sl_of tPC1 hg3 hv3 hd3 (fun _ => rfl), sl_of tPC2 hg4 hv4 hd4 (fun _ => rfl), ?_, ?_⟩
  · have e := Lib.cells_of_tab (zs := turnsL.map fun (n : Nat) => (n : Int)) Tryd.underlying77 Tryd.underlying3 (by kernel_rfl) (by kernel_rfl) hd5
    have := var_range hg5 hv5
    rw [e] at this
    exact this
  · obtain ⟨xs, m, _, ex, hl, hxl, hel⟩ := DataW.trod_array Tryd.underlying79 hd6
    have c9 : Tryd.prog.cellsOf 9 = 1 := by kernel_rfl
    have c79 : Tryd.prog.cellsOf 79 = 8 := by kernel_rfl
    have hxs : xs.map (·.1) = boxT.map fun b => (DataW.lit (.string b) : DataW Unit) := (DataW.agg.inj (Prod.mk.inj ex).1).symm
    have := var_range hg6 hv6
    intro j v hj
    have hj8 : j < 8 := (List.getElem?_eq_some_iff.1 hj).1
    have hE := hel j hj8
    rw [c9, Nat.mul_one, List.getElem?_eq_getElem (by omega)] at hE
    obtain ⟨s, e1, e2, _⟩ := DataW.trod_string Tryd.underlying9 hE
    have e4 : (xs.map (·.1))[j]? = (boxT.map fun b => (DataW.lit (.string b) : DataW Unit))[j]? := by rw [hxs]
    rw [List.getElem?_map, List.getElem?_map, List.getElem?_eq_getElem (by omega : j < xs.length), List.getElem?_eq_getElem (show j < boxT.length from hj8), e2] at e4
    rw [List.getElem?_map, List.getElem?_eq_getElem (show j < boxT.length from hj8)] at hj
    simp only [Option.map_some, Option.some.injEq, DataW.lit.injEq, Lit.string.injEq] at e4 hj
    refine this j v ?_
    have h0 : ((cs6.toList.drop j).take 1)[0]? = some (.string s) := by rw [e1]; rfl
    have h1 : cs6.toList[j]? = some (.string s) := by simpa using h0
    rw [h1, ← hj, ← e4]
end Go.Proofs.YtbjlpdfhjapbkaaDoor
