-- Written by a program of this session (a scratch copy of the print with functions taken as proved): Lean checks it.
import Derived.Test.YtbjlpdfhjapbkaaDoorLDukD
namespace Go.Proofs.YtbjlpdfhjapbkaaDoor.LDuk
open Go.RowKit Go.Proofs.YtbjlpdfhjapbkaaDoorW.PrintWords Go.Proofs.YtbjlpdfhjapbkaaDoorW.PrintLast Go.Proofs.YtbjlpdfhjapbkaaDoorW.PrintMore
attribute [local go_sem] max2_int min2_int max_two min_two max_three min_three max_four min_four   -- for this text's walks alone
set_option linter.unusedVariables false
set_option linter.unusedSimpArgs false

set_option maxHeartbeats 8000000 in
set_option maxRecDepth 100000 in
theorem laws_FnDukpt.calls (k : Nat) (A0 : Option Addr) (c0 : Nat) (l0 : List Int) (r : Bool) (w : World) (hrt : r = true) (ht : Tab8 w) (hr0 : Kd.C (Kd.int .u8) w A0 l0.length l0) (hc0 : l0.length ≤ c0) (h : laws_FnDukpt.f k l0 = some r) :
    Calls Tryd.prog 11 #[.slice A0 l0.length c0] w fun e w' => e = .returned (.bool r) ∧ Below w.heap.size w w' := by
  have HTab_ := Aside0.mk ht
  clear ht
  have HR0 := Aside0.mk hr0
  have HC0 := Aside0.mk hc0
  clear hr0 hc0
  have HB := Aside0.mk (Below.refl w.heap.size w)
  have H : (if (l0.length : Int) > 1048576 then (some true) else ((laws_cut.f k l0 0 16).bind fun t296 => ((spec_DrawDukptKey.f l0).bind fun bt299 => (if (bt299.2.length : Int) = 10 then (if 7 < (bt299.2.length : Int) then (if 8 < (bt299.2.length : Int) then (if 9 < (bt299.2.length : Int) then ((impl_DukptKey.f t296 bt299.2).bind fun t311 => (if (Go.bits .or .i64 (Go.bits .or .i64 (wrap64 ((wrap64 (Go.bits .and .u8 (rd bt299.2 7) 31)) * 65536)) (wrap64 ((wrap64 (rd bt299.2 8)) * 256))) (wrap64 (rd bt299.2 9))) = 0 then (if (t311.length : Int) = 16 then ((impl_DukptInitial.f t296 bt299.2).bind fun t314 => ((laws_same.f t311 t314).bind fun t317 => (if t317 = true then ((spec_DukptInitial.f t296 bt299.2).bind fun t318 => ((laws_same.f t311 t318).bind fun t321 => (some t321))) else (some false)))) else (some false)) else ((some (([] : List Int) : List Int)).bind fun y322 => (if y322.length + bt299.2.length < 140737488355328 then ((some (y322 ++ bt299.2 : List Int)).bind fun y325 => (if 7 < (y325.length : Int) then (if 8 < (y325.length : Int) then (if 9 < (y325.length : Int) then ((impl_DukptKey.f t296 (((y325.set (7 : Int).toNat (Go.bits .or .u8 (Go.bits .and .u8 (rd y325 7) 224) (((Go.bits .and .i64 (Go.bits .or .i64 (Go.bits .or .i64 (wrap64 ((wrap64 (Go.bits .and .u8 (rd bt299.2 7) 31)) * 65536)) (wrap64 ((wrap64 (rd bt299.2 8)) * 256))) (wrap64 (rd bt299.2 9))) (wrap64 ((Go.bits .or .i64 (Go.bits .or .i64 (wrap64 ((wrap64 (Go.bits .and .u8 (rd bt299.2 7) 31)) * 65536)) (wrap64 ((wrap64 (rd bt299.2 8)) * 256))) (wrap64 (rd bt299.2 9))) - 1))) / 65536) % 256))).set (8 : Int).toNat (((Go.bits .and .i64 (Go.bits .or .i64 (Go.bits .or .i64 (wrap64 ((wrap64 (Go.bits .and .u8 (rd bt299.2 7) 31)) * 65536)) (wrap64 ((wrap64 (rd bt299.2 8)) * 256))) (wrap64 (rd bt299.2 9))) (wrap64 ((Go.bits .or .i64 (Go.bits .or .i64 (wrap64 ((wrap64 (Go.bits .and .u8 (rd bt299.2 7) 31)) * 65536)) (wrap64 ((wrap64 (rd bt299.2 8)) * 256))) (wrap64 (rd bt299.2 9))) - 1))) / 256) % 256)).set (9 : Int).toNat ((Go.bits .and .i64 (Go.bits .or .i64 (Go.bits .or .i64 (wrap64 ((wrap64 (Go.bits .and .u8 (rd bt299.2 7) 31)) * 65536)) (wrap64 ((wrap64 (rd bt299.2 8)) * 256))) (wrap64 (rd bt299.2 9))) (wrap64 ((Go.bits .or .i64 (Go.bits .or .i64 (wrap64 ((wrap64 (Go.bits .and .u8 (rd bt299.2 7) 31)) * 65536)) (wrap64 ((wrap64 (rd bt299.2 8)) * 256))) (wrap64 (rd bt299.2 9))) - 1))) % 256))).bind fun t332 => (if (t332.length : Int) = 16 then ((laws_xor.f k t332 (([192, 192, 192, 192, 0, 0, 0, 0, 192, 192, 192, 192, 0, 0, 0, 0] : List Int))).bind fun t338 => (if 8 ≤ (t338.length : Int) then (if 2 ≤ (bt299.2.length : Int) then ((laws_xor.f k (bt299.2.drop 2) (t338.drop 8)).bind fun t353 => ((impl_Des.f (t338.take 8) t353 false).bind fun t356 => (if 8 ≤ (t332.length : Int) then ((laws_xor.f k (bt299.2.drop 2) (t332.drop 8)).bind fun t371 => ((impl_Des.f (t332.take 8) t371 false).bind fun t374 => (if (t356.length : Int) = 8 then (laws_FnDukpt.j0 k t311 t332 t338 t356 t374 ((t374.length : Int) != 8)) else (laws_FnDukpt.j0 k t311 t332 t338 t356 t374 true)))) else (none)))) else (none)) else (none))) else (some false))) else (none)) else (none)) else (none))) else (none))))) else (none)) else (none)) else (none)) else ((impl_DukptKey.f t296 bt299.2).bind fun t305 => (some ((t305.length : Int) == 0))))))) = some r := h
  clear h
  by_cases c2 : (l0.length : Int) > 1048576
  · rw [if_pos c2] at H
    have c2b0 : decide (1048576 < (l0.length : Int)) = true := decide_eq_true c2
    have c2b1 : decide (1048576 < l0.length) = true := decide_eq_true (by omega)
    clear c2
    obtain rfl := Option.some.inj H
    go_enter Tryd.func11, Tryd.ntmps11
    go_wp2
    go_ret
    exact ⟨by first | rfl | (simp [errW_none, errW_some] <;> rfl) | (simp [*, errW_none, errW_some] <;> rfl), by repeat (first | (with_reducible first | exact HB.out | apply below_alloc | apply pw_below_drewN | apply below_drew1) | exact HB.out)⟩
  · rw [if_neg c2] at H
    have c2b0 : decide (1048576 < (l0.length : Int)) = false := decide_eq_false c2
    have c2b1 : decide (1048576 < l0.length) = false := decide_eq_false (by omega)
    clear c2
    replace H := Option.bind_eq_some_iff.mp H
    obtain ⟨t296, A30, H⟩ := H
    replace H : ((spec_DrawDukptKey.f l0).bind fun bt299 => (if (bt299.2.length : Int) = 10 then (if 7 < (bt299.2.length : Int) then (if 8 < (bt299.2.length : Int) then (if 9 < (bt299.2.length : Int) then ((impl_DukptKey.f t296 bt299.2).bind fun t311 => (if (Go.bits .or .i64 (Go.bits .or .i64 (wrap64 ((wrap64 (Go.bits .and .u8 (rd bt299.2 7) 31)) * 65536)) (wrap64 ((wrap64 (rd bt299.2 8)) * 256))) (wrap64 (rd bt299.2 9))) = 0 then (if (t311.length : Int) = 16 then ((impl_DukptInitial.f t296 bt299.2).bind fun t314 => ((laws_same.f t311 t314).bind fun t317 => (if t317 = true then ((spec_DukptInitial.f t296 bt299.2).bind fun t318 => ((laws_same.f t311 t318).bind fun t321 => (some t321))) else (some false)))) else (some false)) else ((some (([] : List Int) : List Int)).bind fun y322 => (if y322.length + bt299.2.length < 140737488355328 then ((some (y322 ++ bt299.2 : List Int)).bind fun y325 => (if 7 < (y325.length : Int) then (if 8 < (y325.length : Int) then (if 9 < (y325.length : Int) then ((impl_DukptKey.f t296 (((y325.set (7 : Int).toNat (Go.bits .or .u8 (Go.bits .and .u8 (rd y325 7) 224) (((Go.bits .and .i64 (Go.bits .or .i64 (Go.bits .or .i64 (wrap64 ((wrap64 (Go.bits .and .u8 (rd bt299.2 7) 31)) * 65536)) (wrap64 ((wrap64 (rd bt299.2 8)) * 256))) (wrap64 (rd bt299.2 9))) (wrap64 ((Go.bits .or .i64 (Go.bits .or .i64 (wrap64 ((wrap64 (Go.bits .and .u8 (rd bt299.2 7) 31)) * 65536)) (wrap64 ((wrap64 (rd bt299.2 8)) * 256))) (wrap64 (rd bt299.2 9))) - 1))) / 65536) % 256))).set (8 : Int).toNat (((Go.bits .and .i64 (Go.bits .or .i64 (Go.bits .or .i64 (wrap64 ((wrap64 (Go.bits .and .u8 (rd bt299.2 7) 31)) * 65536)) (wrap64 ((wrap64 (rd bt299.2 8)) * 256))) (wrap64 (rd bt299.2 9))) (wrap64 ((Go.bits .or .i64 (Go.bits .or .i64 (wrap64 ((wrap64 (Go.bits .and .u8 (rd bt299.2 7) 31)) * 65536)) (wrap64 ((wrap64 (rd bt299.2 8)) * 256))) (wrap64 (rd bt299.2 9))) - 1))) / 256) % 256)).set (9 : Int).toNat ((Go.bits .and .i64 (Go.bits .or .i64 (Go.bits .or .i64 (wrap64 ((wrap64 (Go.bits .and .u8 (rd bt299.2 7) 31)) * 65536)) (wrap64 ((wrap64 (rd bt299.2 8)) * 256))) (wrap64 (rd bt299.2 9))) (wrap64 ((Go.bits .or .i64 (Go.bits .or .i64 (wrap64 ((wrap64 (Go.bits .and .u8 (rd bt299.2 7) 31)) * 65536)) (wrap64 ((wrap64 (rd bt299.2 8)) * 256))) (wrap64 (rd bt299.2 9))) - 1))) % 256))).bind fun t332 => (if (t332.length : Int) = 16 then ((laws_xor.f k t332 (([192, 192, 192, 192, 0, 0, 0, 0, 192, 192, 192, 192, 0, 0, 0, 0] : List Int))).bind fun t338 => (if 8 ≤ (t338.length : Int) then (if 2 ≤ (bt299.2.length : Int) then ((laws_xor.f k (bt299.2.drop 2) (t338.drop 8)).bind fun t353 => ((impl_Des.f (t338.take 8) t353 false).bind fun t356 => (if 8 ≤ (t332.length : Int) then ((laws_xor.f k (bt299.2.drop 2) (t332.drop 8)).bind fun t371 => ((impl_Des.f (t332.take 8) t371 false).bind fun t374 => (if (t356.length : Int) = 8 then (laws_FnDukpt.j0 k t311 t332 t338 t356 t374 ((t374.length : Int) != 8)) else (laws_FnDukpt.j0 k t311 t332 t338 t356 t374 true)))) else (none)))) else (none)) else (none))) else (some false))) else (none)) else (none)) else (none))) else (none))))) else (none)) else (none)) else (none)) else ((impl_DukptKey.f t296 bt299.2).bind fun t305 => (some ((t305.length : Int) == 0))))) = some r := H
    have A3 := Aside0.mk A30
    clear A30
    replace H := Option.bind_eq_some_iff.mp H
    obtain ⟨⟨t299, t300⟩, A40, H⟩ := H
    replace H : (if (t300.length : Int) = 10 then (if 7 < (t300.length : Int) then (if 8 < (t300.length : Int) then (if 9 < (t300.length : Int) then ((impl_DukptKey.f t296 t300).bind fun t311 => (if (Go.bits .or .i64 (Go.bits .or .i64 (wrap64 ((wrap64 (Go.bits .and .u8 (rd t300 7) 31)) * 65536)) (wrap64 ((wrap64 (rd t300 8)) * 256))) (wrap64 (rd t300 9))) = 0 then (if (t311.length : Int) = 16 then ((impl_DukptInitial.f t296 t300).bind fun t314 => ((laws_same.f t311 t314).bind fun t317 => (if t317 = true then ((spec_DukptInitial.f t296 t300).bind fun t318 => ((laws_same.f t311 t318).bind fun t321 => (some t321))) else (some false)))) else (some false)) else ((some (([] : List Int) : List Int)).bind fun y322 => (if y322.length + t300.length < 140737488355328 then ((some (y322 ++ t300 : List Int)).bind fun y325 => (if 7 < (y325.length : Int) then (if 8 < (y325.length : Int) then (if 9 < (y325.length : Int) then ((impl_DukptKey.f t296 (((y325.set (7 : Int).toNat (Go.bits .or .u8 (Go.bits .and .u8 (rd y325 7) 224) (((Go.bits .and .i64 (Go.bits .or .i64 (Go.bits .or .i64 (wrap64 ((wrap64 (Go.bits .and .u8 (rd t300 7) 31)) * 65536)) (wrap64 ((wrap64 (rd t300 8)) * 256))) (wrap64 (rd t300 9))) (wrap64 ((Go.bits .or .i64 (Go.bits .or .i64 (wrap64 ((wrap64 (Go.bits .and .u8 (rd t300 7) 31)) * 65536)) (wrap64 ((wrap64 (rd t300 8)) * 256))) (wrap64 (rd t300 9))) - 1))) / 65536) % 256))).set (8 : Int).toNat (((Go.bits .and .i64 (Go.bits .or .i64 (Go.bits .or .i64 (wrap64 ((wrap64 (Go.bits .and .u8 (rd t300 7) 31)) * 65536)) (wrap64 ((wrap64 (rd t300 8)) * 256))) (wrap64 (rd t300 9))) (wrap64 ((Go.bits .or .i64 (Go.bits .or .i64 (wrap64 ((wrap64 (Go.bits .and .u8 (rd t300 7) 31)) * 65536)) (wrap64 ((wrap64 (rd t300 8)) * 256))) (wrap64 (rd t300 9))) - 1))) / 256) % 256)).set (9 : Int).toNat ((Go.bits .and .i64 (Go.bits .or .i64 (Go.bits .or .i64 (wrap64 ((wrap64 (Go.bits .and .u8 (rd t300 7) 31)) * 65536)) (wrap64 ((wrap64 (rd t300 8)) * 256))) (wrap64 (rd t300 9))) (wrap64 ((Go.bits .or .i64 (Go.bits .or .i64 (wrap64 ((wrap64 (Go.bits .and .u8 (rd t300 7) 31)) * 65536)) (wrap64 ((wrap64 (rd t300 8)) * 256))) (wrap64 (rd t300 9))) - 1))) % 256))).bind fun t332 => (if (t332.length : Int) = 16 then ((laws_xor.f k t332 (([192, 192, 192, 192, 0, 0, 0, 0, 192, 192, 192, 192, 0, 0, 0, 0] : List Int))).bind fun t338 => (if 8 ≤ (t338.length : Int) then (if 2 ≤ (t300.length : Int) then ((laws_xor.f k (t300.drop 2) (t338.drop 8)).bind fun t353 => ((impl_Des.f (t338.take 8) t353 false).bind fun t356 => (if 8 ≤ (t332.length : Int) then ((laws_xor.f k (t300.drop 2) (t332.drop 8)).bind fun t371 => ((impl_Des.f (t332.take 8) t371 false).bind fun t374 => (if (t356.length : Int) = 8 then (laws_FnDukpt.j0 k t311 t332 t338 t356 t374 ((t374.length : Int) != 8)) else (laws_FnDukpt.j0 k t311 t332 t338 t356 t374 true)))) else (none)))) else (none)) else (none))) else (some false))) else (none)) else (none)) else (none))) else (none))))) else (none)) else (none)) else (none)) else ((impl_DukptKey.f t296 t300).bind fun t305 => (some ((t305.length : Int) == 0)))) = some r := H
    have A4 := Aside0.mk A40
    clear A40
    by_cases c5 : (t300.length : Int) = 10
    · rw [if_pos c5] at H
      have c5b0 : ((t300.length : Int) == 10) = true := beq_iff_eq.mpr c5
      have c5b1 : ((t300.length : Int) != 10) = false := bne_eq_false_iff_eq.mpr c5
      clear c5
      by_cases c6 : 7 < (t300.length : Int)
      · rw [if_pos c6] at H
        have c6b0 : decide (7 < (t300.length : Int)) = true := decide_eq_true c6
        have c6b1 : decide (7 < t300.length) = true := decide_eq_true (by omega)
        clear c6
        by_cases c7 : 8 < (t300.length : Int)
        · rw [if_pos c7] at H
          have c7b0 : decide (8 < (t300.length : Int)) = true := decide_eq_true c7
          have c7b1 : decide (8 < t300.length) = true := decide_eq_true (by omega)
          clear c7
          by_cases c8 : 9 < (t300.length : Int)
          · rw [if_pos c8] at H
            have c8b0 : decide (9 < (t300.length : Int)) = true := decide_eq_true c8
            have c8b1 : decide (9 < t300.length) = true := decide_eq_true (by omega)
            clear c8
            replace H := Option.bind_eq_some_iff.mp H
            obtain ⟨t311, A90, H⟩ := H
            replace H : (if (Go.bits .or .i64 (Go.bits .or .i64 (wrap64 ((wrap64 (Go.bits .and .u8 (rd t300 7) 31)) * 65536)) (wrap64 ((wrap64 (rd t300 8)) * 256))) (wrap64 (rd t300 9))) = 0 then (if (t311.length : Int) = 16 then ((impl_DukptInitial.f t296 t300).bind fun t314 => ((laws_same.f t311 t314).bind fun t317 => (if t317 = true then ((spec_DukptInitial.f t296 t300).bind fun t318 => ((laws_same.f t311 t318).bind fun t321 => (some t321))) else (some false)))) else (some false)) else ((some (([] : List Int) : List Int)).bind fun y322 => (if y322.length + t300.length < 140737488355328 then ((some (y322 ++ t300 : List Int)).bind fun y325 => (if 7 < (y325.length : Int) then (if 8 < (y325.length : Int) then (if 9 < (y325.length : Int) then ((impl_DukptKey.f t296 (((y325.set (7 : Int).toNat (Go.bits .or .u8 (Go.bits .and .u8 (rd y325 7) 224) (((Go.bits .and .i64 (Go.bits .or .i64 (Go.bits .or .i64 (wrap64 ((wrap64 (Go.bits .and .u8 (rd t300 7) 31)) * 65536)) (wrap64 ((wrap64 (rd t300 8)) * 256))) (wrap64 (rd t300 9))) (wrap64 ((Go.bits .or .i64 (Go.bits .or .i64 (wrap64 ((wrap64 (Go.bits .and .u8 (rd t300 7) 31)) * 65536)) (wrap64 ((wrap64 (rd t300 8)) * 256))) (wrap64 (rd t300 9))) - 1))) / 65536) % 256))).set (8 : Int).toNat (((Go.bits .and .i64 (Go.bits .or .i64 (Go.bits .or .i64 (wrap64 ((wrap64 (Go.bits .and .u8 (rd t300 7) 31)) * 65536)) (wrap64 ((wrap64 (rd t300 8)) * 256))) (wrap64 (rd t300 9))) (wrap64 ((Go.bits .or .i64 (Go.bits .or .i64 (wrap64 ((wrap64 (Go.bits .and .u8 (rd t300 7) 31)) * 65536)) (wrap64 ((wrap64 (rd t300 8)) * 256))) (wrap64 (rd t300 9))) - 1))) / 256) % 256)).set (9 : Int).toNat ((Go.bits .and .i64 (Go.bits .or .i64 (Go.bits .or .i64 (wrap64 ((wrap64 (Go.bits .and .u8 (rd t300 7) 31)) * 65536)) (wrap64 ((wrap64 (rd t300 8)) * 256))) (wrap64 (rd t300 9))) (wrap64 ((Go.bits .or .i64 (Go.bits .or .i64 (wrap64 ((wrap64 (Go.bits .and .u8 (rd t300 7) 31)) * 65536)) (wrap64 ((wrap64 (rd t300 8)) * 256))) (wrap64 (rd t300 9))) - 1))) % 256))).bind fun t332 => (if (t332.length : Int) = 16 then ((laws_xor.f k t332 (([192, 192, 192, 192, 0, 0, 0, 0, 192, 192, 192, 192, 0, 0, 0, 0] : List Int))).bind fun t338 => (if 8 ≤ (t338.length : Int) then (if 2 ≤ (t300.length : Int) then ((laws_xor.f k (t300.drop 2) (t338.drop 8)).bind fun t353 => ((impl_Des.f (t338.take 8) t353 false).bind fun t356 => (if 8 ≤ (t332.length : Int) then ((laws_xor.f k (t300.drop 2) (t332.drop 8)).bind fun t371 => ((impl_Des.f (t332.take 8) t371 false).bind fun t374 => (if (t356.length : Int) = 8 then (laws_FnDukpt.j0 k t311 t332 t338 t356 t374 ((t374.length : Int) != 8)) else (laws_FnDukpt.j0 k t311 t332 t338 t356 t374 true)))) else (none)))) else (none)) else (none))) else (some false))) else (none)) else (none)) else (none))) else (none)))) = some r := H
            have A9 := Aside0.mk A90
            clear A90
            by_cases c10 : (Go.bits .or .i64 (Go.bits .or .i64 (wrap64 ((wrap64 (Go.bits .and .u8 (rd t300 7) 31)) * 65536)) (wrap64 ((wrap64 (rd t300 8)) * 256))) (wrap64 (rd t300 9))) = 0
            · rw [if_pos c10] at H
              have c10b0 : ((Go.bits .or .i64 (Go.bits .or .i64 (wrap64 ((wrap64 (Go.bits .and .u8 (rd t300 7) 31)) * 65536)) (wrap64 ((wrap64 (rd t300 8)) * 256))) (wrap64 (rd t300 9))) == 0) = true := beq_iff_eq.mpr c10
              have c10b1 : ((Go.bits .or .i64 (Go.bits .or .i64 (wrap64 ((wrap64 (Go.bits .and .u8 (rd t300 7) 31)) * 65536)) (wrap64 ((wrap64 (rd t300 8)) * 256))) (wrap64 (rd t300 9))) != 0) = false := bne_eq_false_iff_eq.mpr c10
              clear c10
              by_cases c11 : (t311.length : Int) = 16
              · rw [if_pos c11] at H
                have c11b0 : ((t311.length : Int) == 16) = true := beq_iff_eq.mpr c11
                have c11b1 : ((t311.length : Int) != 16) = false := bne_eq_false_iff_eq.mpr c11
                clear c11
                replace H := Option.bind_eq_some_iff.mp H
                obtain ⟨t314, A120, H⟩ := H
                replace H : ((laws_same.f t311 t314).bind fun t317 => (if t317 = true then ((spec_DukptInitial.f t296 t300).bind fun t318 => ((laws_same.f t311 t318).bind fun t321 => (some t321))) else (some false))) = some r := H
                have A12 := Aside0.mk A120
                clear A120
                replace H := Option.bind_eq_some_iff.mp H
                obtain ⟨t317, A130, H⟩ := H
                replace H : (if t317 = true then ((spec_DukptInitial.f t296 t300).bind fun t318 => ((laws_same.f t311 t318).bind fun t321 => (some t321))) else (some false)) = some r := H
                have A13 := Aside0.mk A130
                clear A130
                by_cases c14 : t317 = true
                · subst c14
                  have H1 : ((spec_DukptInitial.f t296 t300).bind fun t318 => ((laws_same.f t311 t318).bind fun t321 => (some t321))) = some r := by rw [if_pos rfl] at H; exact H
                  clear H
                  have H := H1
                  clear H1
                  replace H := Option.bind_eq_some_iff.mp H
                  obtain ⟨t318, A150, H⟩ := H
                  replace H : ((laws_same.f t311 t318).bind fun t321 => (some t321)) = some r := H
                  have A15 := Aside0.mk A150
                  clear A150
                  replace H := Option.bind_eq_some_iff.mp H
                  obtain ⟨t321, A160, H⟩ := H
                  replace H : (some t321) = some r := H
                  have A16 := Aside0.mk A160
                  clear A160
                  obtain rfl := Option.some.inj H
                  go_enter Tryd.func11, Tryd.ntmps11
                  try go_wp2_with (first | ((with_reducible refine gate_callee (f := 12) rfl ?_); refine goesL_ (some 19) rfl rfl Tryd.func12 (by kernel_rfl) rfl #[.slice A0 l0.length c0, .int .i64 0, .int .i64 16] rfl (by (try simp only [List.map_toArray, List.map_cons, List.map_nil]); first | done | rfl | (simp only [List.length_drop, List.length_take]; rfl)) ?_; (with_reducible refine (laws_cut.calls k _ _ l0 0 16 t296 _ ?side1 ?side2 A3.out).mono ?_); (case side1 => repeat (first | exact HR0.out | (with_reducible refine Kd.C_alloc ?_ _) | (with_reducible refine Kd.C_drewN ?_ _) | (with_reducible refine Kd.C_drew ?_))); (case side2 => exact HC0.out); rintro e w17 ⟨v297, rfl, ho0, hb⟩; refine ⟨_, rfl, ?_⟩; have n0_ := Aside0.mk (Kd.R_lower ho0 (below_size (by repeat (first | (with_reducible first | exact HB.out | apply below_alloc | apply pw_below_drewN | apply below_drew1) | exact HB.out)))); have n1_ := Aside0.mk (below_step (by repeat (first | (with_reducible first | exact HB.out | apply below_alloc | apply pw_below_drewN | apply below_drew1) | exact HB.out)) hb); clear HB; have HO298 := n0_; have HB := n1_; clear n0_ n1_; (try clear hb); (try clear hb2); (try clear hk); (try clear hi); (try clear ho0)) | ((with_reducible refine gate_callee (f := 33) rfl ?_); refine goesL_ (some 22) rfl rfl Tryd.func33 (by kernel_rfl) rfl #[.slice A0 l0.length c0] rfl (by (try simp only [List.map_toArray, List.map_cons, List.map_nil]); first | done | rfl | (simp only [List.length_drop, List.length_take]; rfl)) ?_; (with_reducible refine (spec_DrawDukptKey.calls _ _ l0 t299 t300 _ ?side1 ?side2 A4.out).mono ?_); (case side1 => repeat (first | exact (Kd.C_below HR0.out HB.out) | (with_reducible refine Kd.C_alloc ?_ _) | (with_reducible refine Kd.C_drewN ?_ _) | (with_reducible refine Kd.C_drew ?_))); (case side2 => exact HC0.out); rintro e w18 ⟨v301, v303, rfl, ho0, ho1, hb⟩; refine ⟨_, rfl, ?_⟩; have n0_ := Aside0.mk (Kd.R_mono (Kd.R_told (Kd.R_told (Kd.R_old (by (with_reducible repeat (first | apply Kd.R_alloc | apply Kd.R_drewN | apply Kd.R_drew)); exact HO298.out) hb) (Kd.R_base ho0)) (Kd.R_base ho1)) (fun _ h_ => h_.1)); have n1_ := Aside0.mk (Kd.R_lower (Kd.R_new' ho0 (Kd.R_lt (by (with_reducible repeat (first | apply Kd.R_alloc | apply Kd.R_drewN | apply Kd.R_drew)); exact HO298.out))) (below_size (by repeat (first | (with_reducible first | exact HB.out | apply below_alloc | apply pw_below_drewN | apply below_drew1) | exact HB.out)))); have n2_ := Aside0.mk (Kd.R_lower (Kd.R_new' ho1 (Kd.R_lt (by (with_reducible repeat (first | apply Kd.R_alloc | apply Kd.R_drewN | apply Kd.R_drew)); exact HO298.out))) (below_size (by repeat (first | (with_reducible first | exact HB.out | apply below_alloc | apply pw_below_drewN | apply below_drew1) | exact HB.out)))); have n3_ := Aside0.mk (below_step (by repeat (first | (with_reducible first | exact HB.out | apply below_alloc | apply pw_below_drewN | apply below_drew1) | exact HB.out)) hb); clear HO298; clear HB; have HO298 := n0_; have HO302 := n1_; have HO304 := n2_; have HB := n3_; clear n0_ n1_ n2_ n3_; (try clear hb); (try clear hb2); (try clear hk); (try clear hi); (try clear ho0); (try clear ho1); obtain ⟨Ao19, co19, eo19⟩ := Kd.R_slice HO304.out; subst eo19))
                  have n0_ := Aside0.mk (Kd.R_drew HO298.out)
                  have n1_ := Aside0.mk (Kd.R_drew HO302.out)
                  have n2_ := Aside0.mk (Kd.R_drew HO304.out)
                  have n3_ := Aside0.mk (below_drew1 HB.out)
                  clear HO298
                  clear HO302
                  clear HO304
                  clear HB
                  have HO298 := n0_
                  have HO302 := n1_
                  have HO304 := n2_
                  have HB := n3_
                  clear n0_ n1_ n2_ n3_
                  have p308 : 0 ≤ (7 : Int) := (by omega)
                  have q308 : 7 < (t300.length : Int) := of_decide_eq_true (by first | (with_reducible assumption) | assumption)
                  obtain ⟨ad308, e308, hx308_0⟩ := Kd.at_int (Kd.R_reads' HO304.out).2.2 7 p308 q308
                  cases e308
                  (try simp only [show (7 : Int).toNat = 7 from rfl, Nat.reduceMul, Nat.reduceEqDiff, Go.Addr.add, ↓reduceIte] at hx308_0)
                  have qi308 : (7 < t300.length) = True := eq_true (by omega)
                  (try rw [show ((7 : Int)).toNat = 7 from rfl] at hx308_0)
                  replace p308 := eq_true p308
                  replace q308 := eq_true q308
                  have p309 : 0 ≤ (8 : Int) := (by omega)
                  have q309 : 8 < (t300.length : Int) := of_decide_eq_true (by first | (with_reducible assumption) | assumption)
                  obtain ⟨ad309, e309, hx309_0⟩ := Kd.at_int (Kd.R_reads' HO304.out).2.2 8 p309 q309
                  obtain rfl : ad308 = ad309 := (by injection e309)
                  (try simp only [show (8 : Int).toNat = 8 from rfl, Nat.reduceMul, Nat.reduceEqDiff, Go.Addr.add, ↓reduceIte] at hx309_0)
                  have qi309 : (8 < t300.length) = True := eq_true (by omega)
                  (try rw [show ((8 : Int)).toNat = 8 from rfl] at hx309_0)
                  replace p309 := eq_true p309
                  replace q309 := eq_true q309
                  have p310 : 0 ≤ (9 : Int) := (by omega)
                  have q310 : 9 < (t300.length : Int) := of_decide_eq_true (by first | (with_reducible assumption) | assumption)
                  obtain ⟨ad310, e310, hx310_0⟩ := Kd.at_int (Kd.R_reads' HO304.out).2.2 9 p310 q310
                  obtain rfl : ad308 = ad310 := (by injection e310)
                  (try simp only [show (9 : Int).toNat = 9 from rfl, Nat.reduceMul, Nat.reduceEqDiff, Go.Addr.add, ↓reduceIte] at hx310_0)
                  have qi310 : (9 < t300.length) = True := eq_true (by omega)
                  (try rw [show ((9 : Int)).toNat = 9 from rfl] at hx310_0)
                  replace p310 := eq_true p310
                  replace q310 := eq_true q310
                  refine start_ (n := 18) (S := fun w' => w'.cell? ⟨ad308.block, ad308.off + 7, none⟩ = some (.int .u8 (rd t300 7)) ∧ w'.cell? ⟨ad308.block, ad308.off + 8, none⟩ = some (.int .u8 (rd t300 8)) ∧ w'.cell? ⟨ad308.block, ad308.off + 9, none⟩ = some (.int .u8 (rd t300 9))) (ds := []) #[false, false, false, false, false, false, false, false, false, false, false, false, false, false, false, false, false, false] (by kernel_rfl) rfl rfl ⟨hx308_0, hx309_0, hx310_0⟩ (fun hHeld => ?_); refine with_tabW laws_FnDukpt.tab7 laws_FnDukpt.bits7 (fun HT_ HW_ => ?_)
                  generalize w18.drew = w20 at HO298 HO302 HO304 HB hx308_0 hx309_0 hx310_0 hHeld ⊢
                  refine pure_ (i := 0) (N := some 33) (v := ?_) (a' := ?_) #[true, false, false, false, false, false, false, false, false, false, false, false, false, false, false, false, false, false] rfl rfl (any_of HT_.out (by kernel_rfl)) (fun _ _ _ h => h) (Or.inl ⟨by rfl, ?_⟩) ?_ ?_
                  rotate_left
                  · intro w'
                    go_simp
                    with_reducible rfl
                  rotate_left
                  · simp only [Act.put, List.setIfInBounds_toArray, List.set_cons_zero, List.set_cons_succ, i64_w, i32_w]
                    rfl
                  refine pure_ (i := 1) (N := some 34) (v := ?_) (a' := ?_) #[true, true, false, false, false, false, false, false, false, false, false, false, false, false, false, false, false, false] rfl rfl (any_of HT_.out (by kernel_rfl)) (fun _ _ _ h => h) (Or.inl ⟨by rfl, ?_⟩) ?_ ?_
                  rotate_left
                  · intro w'
                    go_simp
                    with_reducible rfl
                  rotate_left
                  · simp only [Act.put, List.setIfInBounds_toArray, List.set_cons_zero, List.set_cons_succ, i64_w, i32_w]
                    rfl
                  refine pure_ (i := 6) (N := some 39) (v := ?_) (a' := ?_) #[true, true, false, false, false, false, true, false, false, false, false, false, false, false, false, false, false, false] rfl rfl (any_of HT_.out (by kernel_rfl)) (fun _ _ _ h => h) (Or.inl ⟨by rfl, ?_⟩) ?_ ?_
                  rotate_left
                  · intro w'
                    go_simp
                    with_reducible rfl
                  rotate_left
                  · simp only [Act.put, List.setIfInBounds_toArray, List.set_cons_zero, List.set_cons_succ, i64_w, i32_w]
                    rfl
                  refine pure_ (i := 7) (N := some 40) (v := ?_) (a' := ?_) #[true, true, false, false, false, false, true, true, false, false, false, false, false, false, false, false, false, false] rfl rfl (any_of HT_.out (by kernel_rfl)) (fun _ _ _ h => h) (Or.inl ⟨by rfl, ?_⟩) ?_ ?_
                  rotate_left
                  · intro w'
                    go_simp
                    with_reducible rfl
                  rotate_left
                  · simp only [Act.put, List.setIfInBounds_toArray, List.set_cons_zero, List.set_cons_succ, i64_w, i32_w]
                    rfl
                  refine pure_ (i := 12) (N := some 45) (v := ?_) (a' := ?_) #[true, true, false, false, false, false, true, true, false, false, false, false, true, false, false, false, false, false] rfl rfl (any_of HT_.out (by kernel_rfl)) (fun _ _ _ h => h) (Or.inl ⟨by rfl, ?_⟩) ?_ ?_
                  rotate_left
                  · intro w'
                    go_simp
                    with_reducible rfl
                  rotate_left
                  · simp only [Act.put, List.setIfInBounds_toArray, List.set_cons_zero, List.set_cons_succ, i64_w, i32_w]
                    rfl
                  refine pure_ (i := 13) (N := some 46) (v := ?_) (a' := ?_) #[true, true, false, false, false, false, true, true, false, false, false, false, true, true, false, false, false, false] rfl rfl (any_of HT_.out (by kernel_rfl)) (fun _ _ _ h => h) (Or.inl ⟨by rfl, ?_⟩) ?_ ?_
                  rotate_left
                  · intro w'
                    go_simp
                    with_reducible rfl
                  rotate_left
                  · simp only [Act.put, List.setIfInBounds_toArray, List.set_cons_zero, List.set_cons_succ, i64_w, i32_w]
                    rfl
                  refine take_ (i := 2) (N := some 35) (v := ?_) (a' := ?_) #[true, true, true, false, false, false, true, true, false, false, false, false, true, true, false, false, false, false] rfl rfl (take_ofW HT_.out HW_.out (by kernel_rfl)) (fun _ _ _ h => h) (Or.inl ⟨by rfl, ?_⟩) hHeld ?_ ?_
                  rotate_left
                  · rintro w' ⟨s0, s1, s2⟩
                    go_simp
                    with_reducible rfl
                  rotate_left
                  · simp only [Act.put, List.setIfInBounds_toArray, List.set_cons_zero, List.set_cons_succ, i64_w, i32_w]
                    rfl
                  refine pure_ (i := 3) (N := some 36) (v := ?_) (a' := ?_) #[true, true, true, true, false, false, true, true, false, false, false, false, true, true, false, false, false, false] rfl rfl (any_of HT_.out (by kernel_rfl)) (fun _ _ _ h => h) (Or.inl ⟨by rfl, ?_⟩) ?_ ?_
                  rotate_left
                  · intro w'
                    go_simp
                    with_reducible rfl
                  rotate_left
                  · simp only [Act.put, List.setIfInBounds_toArray, List.set_cons_zero, List.set_cons_succ, i64_w, i32_w]
                    rfl
                  refine pure_ (i := 4) (N := some 37) (v := ?_) (a' := ?_) #[true, true, true, true, true, false, true, true, false, false, false, false, true, true, false, false, false, false] rfl rfl (any_of HT_.out (by kernel_rfl)) (fun _ _ _ h => h) (Or.inl ⟨by rfl, ?_⟩) ?_ ?_
                  rotate_left
                  · intro w'
                    go_simp
                    with_reducible rfl
                  rotate_left
                  · simp only [Act.put, List.setIfInBounds_toArray, List.set_cons_zero, List.set_cons_succ, i64_w, i32_w]
                    rfl
                  refine pure_ (i := 5) (N := some 38) (v := ?_) (a' := ?_) #[true, true, true, true, true, true, true, true, false, false, false, false, true, true, false, false, false, false] rfl rfl (any_of HT_.out (by kernel_rfl)) (fun _ _ _ h => h) (Or.inl ⟨by rfl, ?_⟩) ?_ ?_
                  rotate_left
                  · intro w'
                    go_simp
                    with_reducible rfl
                  rotate_left
                  · simp only [Act.put, List.setIfInBounds_toArray, List.set_cons_zero, List.set_cons_succ, i64_w, i32_w]
                    rfl
                  refine take_ (i := 8) (N := some 41) (v := ?_) (a' := ?_) #[true, true, true, true, true, true, true, true, true, false, false, false, true, true, false, false, false, false] rfl rfl (take_ofW HT_.out HW_.out (by kernel_rfl)) (fun _ _ _ h => h) (Or.inl ⟨by rfl, ?_⟩) hHeld ?_ ?_
                  rotate_left
                  · rintro w' ⟨s0, s1, s2⟩
                    go_simp
                    with_reducible rfl
                  rotate_left
                  · simp only [Act.put, List.setIfInBounds_toArray, List.set_cons_zero, List.set_cons_succ, i64_w, i32_w]
                    rfl
                  refine pure_ (i := 9) (N := some 42) (v := ?_) (a' := ?_) #[true, true, true, true, true, true, true, true, true, true, false, false, true, true, false, false, false, false] rfl rfl (any_of HT_.out (by kernel_rfl)) (fun _ _ _ h => h) (Or.inl ⟨by rfl, ?_⟩) ?_ ?_
                  rotate_left
                  · intro w'
                    go_simp
                    with_reducible rfl
                  rotate_left
                  · simp only [Act.put, List.setIfInBounds_toArray, List.set_cons_zero, List.set_cons_succ, i64_w, i32_w]
                    rfl
                  refine pure_ (i := 10) (N := some 43) (v := ?_) (a' := ?_) #[true, true, true, true, true, true, true, true, true, true, true, false, true, true, false, false, false, false] rfl rfl (any_of HT_.out (by kernel_rfl)) (fun _ _ _ h => h) (Or.inl ⟨by rfl, ?_⟩) ?_ ?_
                  rotate_left
                  · intro w'
                    go_simp
                    with_reducible rfl
                  rotate_left
                  · simp only [Act.put, List.setIfInBounds_toArray, List.set_cons_zero, List.set_cons_succ, i64_w, i32_w]
                    rfl
                  refine pure_ (i := 11) (N := some 44) (v := ?_) (a' := ?_) #[true, true, true, true, true, true, true, true, true, true, true, true, true, true, false, false, false, false] rfl rfl (any_of HT_.out (by kernel_rfl)) (fun _ _ _ h => h) (Or.inl ⟨by rfl, ?_⟩) ?_ ?_
                  rotate_left
                  · intro w'
                    go_simp
                    with_reducible rfl
                  rotate_left
                  · simp only [Act.put, List.setIfInBounds_toArray, List.set_cons_zero, List.set_cons_succ, i64_w, i32_w]
                    rfl
                  refine take_ (i := 14) (N := some 47) (v := ?_) (a' := ?_) #[true, true, true, true, true, true, true, true, true, true, true, true, true, true, true, false, false, false] rfl rfl (take_ofW HT_.out HW_.out (by kernel_rfl)) (fun _ _ _ h => h) (Or.inl ⟨by rfl, ?_⟩) hHeld ?_ ?_
                  rotate_left
                  · rintro w' ⟨s0, s1, s2⟩
                    go_simp
                    with_reducible rfl
                  rotate_left
                  · simp only [Act.put, List.setIfInBounds_toArray, List.set_cons_zero, List.set_cons_succ, i64_w, i32_w]
                    rfl
                  refine pure_ (i := 15) (N := some 48) (v := ?_) (a' := ?_) #[true, true, true, true, true, true, true, true, true, true, true, true, true, true, true, true, false, false] rfl rfl (any_of HT_.out (by kernel_rfl)) (fun _ _ _ h => h) (Or.inl ⟨by rfl, ?_⟩) ?_ ?_
                  rotate_left
                  · intro w'
                    go_simp
                    with_reducible rfl
                  rotate_left
                  · simp only [Act.put, List.setIfInBounds_toArray, List.set_cons_zero, List.set_cons_succ, i64_w, i32_w]
                    rfl
                  refine pure_ (i := 16) (N := some 49) (v := ?_) (a' := ?_) #[true, true, true, true, true, true, true, true, true, true, true, true, true, true, true, true, true, false] rfl rfl (any_of HT_.out (by kernel_rfl)) (fun _ _ _ h => h) (Or.inl ⟨by rfl, ?_⟩) ?_ ?_
                  rotate_left
                  · intro w'
                    go_simp
                    with_reducible rfl
                  rotate_left
                  · simp only [Act.put, List.setIfInBounds_toArray, List.set_cons_zero, List.set_cons_succ, i64_w, i32_w]
                    rfl
                  refine pure_ (i := 17) (N := some 6) (v := ?_) (a' := ?_) #[true, true, true, true, true, true, true, true, true, true, true, true, true, true, true, true, true, true] rfl rfl (any_of HT_.out (by kernel_rfl)) (fun _ _ _ h => h) (Or.inl ⟨by rfl, ?_⟩) ?_ ?_
                  rotate_left
                  · intro w'
                    go_simp
                    with_reducible rfl
                  rotate_left
                  · simp only [Act.put, List.setIfInBounds_toArray, List.set_cons_zero, List.set_cons_succ, i64_w, i32_w]
                    rfl
                  refine done_ (done_of HT_.out (by kernel_rfl)) ?_
                  obtain ⟨Ao21, co21, eo21⟩ := Kd.R_slice HO298.out
                  subst eo21
                  try go_wp2_with (first | ((with_reducible refine gate_callee (f := 32) rfl ?_); refine goesL_ (some 52) rfl rfl Tryd.func32 (by kernel_rfl) rfl #[.slice Ao21 t296.length co21, .slice (some ad308) t300.length co19] rfl (by (try simp only [List.map_toArray, List.map_cons, List.map_nil]); first | done | rfl | (simp only [List.length_drop, List.length_take]; rfl)) ?_; (with_reducible refine (impl_DukptKey.calls _ _ t296 _ _ t300 t311 _ ?side1 ?side2 ?side3 ?side4 A9.out ?sidetab).mono ?_); (case sidetab => exact HTab_.out.below (by repeat (first | (with_reducible first | exact HB.out | apply below_alloc | apply pw_below_drewN | apply below_drew1) | exact HB.out))); (case side1 => repeat (first | exact (Kd.R_reads' HO298.out).2.2 | (with_reducible refine Kd.C_alloc ?_ _) | (with_reducible refine Kd.C_drewN ?_ _) | (with_reducible refine Kd.C_drew ?_))); (case side2 => exact (Kd.R_reads' HO298.out).2.1); (case side3 => repeat (first | exact (Kd.R_reads' HO304.out).2.2 | (with_reducible refine Kd.C_alloc ?_ _) | (with_reducible refine Kd.C_drewN ?_ _) | (with_reducible refine Kd.C_drew ?_))); (case side4 => exact (Kd.R_reads' HO304.out).2.1); rintro e w22 ⟨v312, rfl, ho0, hb⟩; refine ⟨_, rfl, ?_⟩; have n0_ := Aside0.mk (Kd.R_elder' (by (with_reducible repeat (first | apply Kd.R_alloc | apply Kd.R_drewN | apply Kd.R_drew)); exact HO298.out) (Kd.R_base ho0) hb); have n1_ := Aside0.mk (Kd.R_elder' (by (with_reducible repeat (first | apply Kd.R_alloc | apply Kd.R_drewN | apply Kd.R_drew)); exact HO302.out) (Kd.R_base ho0) hb); have n2_ := Aside0.mk (Kd.R_elder' (by (with_reducible repeat (first | apply Kd.R_alloc | apply Kd.R_drewN | apply Kd.R_drew)); exact HO304.out) (Kd.R_base ho0) hb); have n3_ := Aside0.mk (Kd.R_lower (Kd.R_new' (Kd.R_new' (Kd.R_new' ho0 (Kd.R_lt (by (with_reducible repeat (first | apply Kd.R_alloc | apply Kd.R_drewN | apply Kd.R_drew)); exact HO298.out))) (Kd.R_lt (by (with_reducible repeat (first | apply Kd.R_alloc | apply Kd.R_drewN | apply Kd.R_drew)); exact HO302.out))) (Kd.R_lt (by (with_reducible repeat (first | apply Kd.R_alloc | apply Kd.R_drewN | apply Kd.R_drew)); exact HO304.out))) (below_size (by repeat (first | (with_reducible first | exact HB.out | apply below_alloc | apply pw_below_drewN | apply below_drew1) | exact HB.out)))); have n4_ := Aside0.mk (below_step (by repeat (first | (with_reducible first | exact HB.out | apply below_alloc | apply pw_below_drewN | apply below_drew1) | exact HB.out)) hb); clear HO298; clear HO302; clear HO304; clear HB; have HO298 := n0_; have HO302 := n1_; have HO304 := n2_; have HO313 := n3_; have HB := n4_; clear n0_ n1_ n2_ n3_ n4_; (try clear hb); (try clear hb2); (try clear hk); (try clear hi); (try clear ho0); obtain ⟨Ao23, co23, eo23⟩ := Kd.R_slice HO313.out; subst eo23) | (go_at_call 28; (with_reducible refine (impl_DukptInitial.calls _ _ t296 _ _ t300 t314 _ ?side1 ?side2 ?side3 ?side4 A12.out ?sidetab).mono ?_); (case sidetab => exact HTab_.out.below (by repeat (first | (with_reducible first | exact HB.out | apply below_alloc | apply pw_below_drewN | apply below_drew1) | exact HB.out))); (case side1 => repeat (first | exact (Kd.R_reads' HO298.out).2.2 | (with_reducible refine Kd.C_alloc ?_ _) | (with_reducible refine Kd.C_drewN ?_ _) | (with_reducible refine Kd.C_drew ?_))); (case side2 => exact (Kd.R_reads' HO298.out).2.1); (case side3 => repeat (first | exact (Kd.R_reads' HO304.out).2.2 | (with_reducible refine Kd.C_alloc ?_ _) | (with_reducible refine Kd.C_drewN ?_ _) | (with_reducible refine Kd.C_drew ?_))); (case side4 => exact (Kd.R_reads' HO304.out).2.1); rintro e w24 ⟨v315, rfl, ho0, hb⟩; have n0_ := Aside0.mk (Kd.R_elder' (by (with_reducible repeat (first | apply Kd.R_alloc | apply Kd.R_drewN | apply Kd.R_drew)); exact HO298.out) (Kd.R_base ho0) hb); have n1_ := Aside0.mk (Kd.R_elder' (by (with_reducible repeat (first | apply Kd.R_alloc | apply Kd.R_drewN | apply Kd.R_drew)); exact HO302.out) (Kd.R_base ho0) hb); have n2_ := Aside0.mk (Kd.R_elder' (by (with_reducible repeat (first | apply Kd.R_alloc | apply Kd.R_drewN | apply Kd.R_drew)); exact HO304.out) (Kd.R_base ho0) hb); have n3_ := Aside0.mk (Kd.R_elder' (by (with_reducible repeat (first | apply Kd.R_alloc | apply Kd.R_drewN | apply Kd.R_drew)); exact HO313.out) (Kd.R_base ho0) hb); have n4_ := Aside0.mk (Kd.R_lower (Kd.R_new' (Kd.R_new' (Kd.R_new' (Kd.R_new' ho0 (Kd.R_lt (by (with_reducible repeat (first | apply Kd.R_alloc | apply Kd.R_drewN | apply Kd.R_drew)); exact HO298.out))) (Kd.R_lt (by (with_reducible repeat (first | apply Kd.R_alloc | apply Kd.R_drewN | apply Kd.R_drew)); exact HO302.out))) (Kd.R_lt (by (with_reducible repeat (first | apply Kd.R_alloc | apply Kd.R_drewN | apply Kd.R_drew)); exact HO304.out))) (Kd.R_lt (by (with_reducible repeat (first | apply Kd.R_alloc | apply Kd.R_drewN | apply Kd.R_drew)); exact HO313.out))) (below_size (by repeat (first | (with_reducible first | exact HB.out | apply below_alloc | apply pw_below_drewN | apply below_drew1) | exact HB.out)))); have n5_ := Aside0.mk (below_step (by repeat (first | (with_reducible first | exact HB.out | apply below_alloc | apply pw_below_drewN | apply below_drew1) | exact HB.out)) hb); clear HO298; clear HO302; clear HO304; clear HO313; clear HB; have HO298 := n0_; have HO302 := n1_; have HO304 := n2_; have HO313 := n3_; have HO316 := n4_; have HB := n5_; clear n0_ n1_ n2_ n3_ n4_ n5_; (try clear hb); (try clear hb2); (try clear hk); (try clear hi); (try clear ho0); obtain ⟨Ao25, co25, eo25⟩ := Kd.R_slice HO316.out; subst eo25) | (go_at_call 14; (with_reducible refine (laws_same.calls _ _ t311 _ _ t314 true _ ?side1 ?side2 ?side3 ?side4 A13.out).mono ?_); (case side1 => repeat (first | exact (Kd.R_reads' HO313.out).2.2 | (with_reducible refine Kd.C_alloc ?_ _) | (with_reducible refine Kd.C_drewN ?_ _) | (with_reducible refine Kd.C_drew ?_))); (case side2 => exact (Kd.R_reads' HO313.out).2.1); (case side3 => repeat (first | exact (Kd.R_reads' HO316.out).2.2 | (with_reducible refine Kd.C_alloc ?_ _) | (with_reducible refine Kd.C_drewN ?_ _) | (with_reducible refine Kd.C_drew ?_))); (case side4 => exact (Kd.R_reads' HO316.out).2.1); rintro e w' ⟨rfl, ⟨nd, rfl⟩⟩) | (go_at_call 27; (with_reducible refine (spec_DukptInitial.calls _ _ t296 _ _ t300 t318 _ ?side1 ?side2 ?side3 ?side4 A15.out).mono ?_); (case side1 => repeat (first | exact (Kd.R_reads' HO298.out).2.2 | (with_reducible refine Kd.C_alloc ?_ _) | (with_reducible refine Kd.C_drewN ?_ _) | (with_reducible refine Kd.C_drew ?_))); (case side2 => exact (Kd.R_reads' HO298.out).2.1); (case side3 => repeat (first | exact (Kd.R_reads' HO304.out).2.2 | (with_reducible refine Kd.C_alloc ?_ _) | (with_reducible refine Kd.C_drewN ?_ _) | (with_reducible refine Kd.C_drew ?_))); (case side4 => exact (Kd.R_reads' HO304.out).2.1); rintro e w26 ⟨v319, rfl, ho0, hb⟩; have n0_ := Aside0.mk (Kd.R_elder' (by (with_reducible repeat (first | apply Kd.R_alloc | apply Kd.R_drewN | apply Kd.R_drew)); exact HO298.out) (Kd.R_base ho0) hb); have n1_ := Aside0.mk (Kd.R_elder' (by (with_reducible repeat (first | apply Kd.R_alloc | apply Kd.R_drewN | apply Kd.R_drew)); exact HO302.out) (Kd.R_base ho0) hb); have n2_ := Aside0.mk (Kd.R_elder' (by (with_reducible repeat (first | apply Kd.R_alloc | apply Kd.R_drewN | apply Kd.R_drew)); exact HO304.out) (Kd.R_base ho0) hb); have n3_ := Aside0.mk (Kd.R_elder' (by (with_reducible repeat (first | apply Kd.R_alloc | apply Kd.R_drewN | apply Kd.R_drew)); exact HO313.out) (Kd.R_base ho0) hb); have n4_ := Aside0.mk (Kd.R_elder' (by (with_reducible repeat (first | apply Kd.R_alloc | apply Kd.R_drewN | apply Kd.R_drew)); exact HO316.out) (Kd.R_base ho0) hb); have n5_ := Aside0.mk (Kd.R_lower (Kd.R_new' (Kd.R_new' (Kd.R_new' (Kd.R_new' (Kd.R_new' ho0 (Kd.R_lt (by (with_reducible repeat (first | apply Kd.R_alloc | apply Kd.R_drewN | apply Kd.R_drew)); exact HO298.out))) (Kd.R_lt (by (with_reducible repeat (first | apply Kd.R_alloc | apply Kd.R_drewN | apply Kd.R_drew)); exact HO302.out))) (Kd.R_lt (by (with_reducible repeat (first | apply Kd.R_alloc | apply Kd.R_drewN | apply Kd.R_drew)); exact HO304.out))) (Kd.R_lt (by (with_reducible repeat (first | apply Kd.R_alloc | apply Kd.R_drewN | apply Kd.R_drew)); exact HO313.out))) (Kd.R_lt (by (with_reducible repeat (first | apply Kd.R_alloc | apply Kd.R_drewN | apply Kd.R_drew)); exact HO316.out))) (below_size (by repeat (first | (with_reducible first | exact HB.out | apply below_alloc | apply pw_below_drewN | apply below_drew1) | exact HB.out)))); have n6_ := Aside0.mk (below_step (by repeat (first | (with_reducible first | exact HB.out | apply below_alloc | apply pw_below_drewN | apply below_drew1) | exact HB.out)) hb); clear HO298; clear HO302; clear HO304; clear HO313; clear HO316; clear HB; have HO298 := n0_; have HO302 := n1_; have HO304 := n2_; have HO313 := n3_; have HO316 := n4_; have HO320 := n5_; have HB := n6_; clear n0_ n1_ n2_ n3_ n4_ n5_ n6_; (try clear hb); (try clear hb2); (try clear hk); (try clear hi); (try clear ho0); obtain ⟨Ao27, co27, eo27⟩ := Kd.R_slice HO320.out; subst eo27) | (go_at_call 14; (with_reducible refine (laws_same.calls _ _ t311 _ _ t318 t321 _ ?side1 ?side2 ?side3 ?side4 A16.out).mono ?_); (case side1 => repeat (first | exact (Kd.R_reads' HO313.out).2.2 | (with_reducible refine Kd.C_alloc ?_ _) | (with_reducible refine Kd.C_drewN ?_ _) | (with_reducible refine Kd.C_drew ?_))); (case side2 => exact (Kd.R_reads' HO313.out).2.1); (case side3 => repeat (first | exact (Kd.R_reads' HO320.out).2.2 | (with_reducible refine Kd.C_alloc ?_ _) | (with_reducible refine Kd.C_drewN ?_ _) | (with_reducible refine Kd.C_drew ?_))); (case side4 => exact (Kd.R_reads' HO320.out).2.1); rintro e w' ⟨rfl, ⟨nd, rfl⟩⟩))
                  go_ret
                  exact ⟨by first | rfl | (simp [errW_none, errW_some] <;> rfl) | (simp [*, errW_none, errW_some] <;> rfl), by repeat (first | (with_reducible first | exact HB.out | apply below_alloc | apply pw_below_drewN | apply below_drew1) | exact HB.out)⟩
                · replace c14 := Bool.eq_false_iff.mpr c14
                  subst c14
                  have H1 : (some false) = some r := by rw [if_neg (show ¬ (false = true) by decide)] at H; exact H
                  clear H
                  have H := H1
                  clear H1
                  obtain rfl := Option.some.inj H
                  exact absurd hrt (by decide)
              · rw [if_neg c11] at H
                have c11b0 : ((t311.length : Int) == 16) = false := beq_eq_false_iff_ne.mpr c11
                have c11b1 : ((t311.length : Int) != 16) = true := bne_iff_ne.mpr c11
                obtain rfl := Option.some.inj H
                exact absurd hrt (by decide)
            · rw [if_neg c10] at H
              have c10b0 : ((Go.bits .or .i64 (Go.bits .or .i64 (wrap64 ((wrap64 (Go.bits .and .u8 (rd t300 7) 31)) * 65536)) (wrap64 ((wrap64 (rd t300 8)) * 256))) (wrap64 (rd t300 9))) == 0) = false := beq_eq_false_iff_ne.mpr c10
              have c10b1 : ((Go.bits .or .i64 (Go.bits .or .i64 (wrap64 ((wrap64 (Go.bits .and .u8 (rd t300 7) 31)) * 65536)) (wrap64 ((wrap64 (rd t300 8)) * 256))) (wrap64 (rd t300 9))) != 0) = true := bne_iff_ne.mpr c10
              obtain ⟨y322, hy322⟩ : ∃ y_ : List Int, y_ = (([] : List Int)) := ⟨_, rfl⟩
              replace H : (if y322.length + t300.length < 140737488355328 then ((some (y322 ++ t300 : List Int)).bind fun y325 => (if 7 < (y325.length : Int) then (if 8 < (y325.length : Int) then (if 9 < (y325.length : Int) then ((impl_DukptKey.f t296 (((y325.set (7 : Int).toNat (Go.bits .or .u8 (Go.bits .and .u8 (rd y325 7) 224) (((Go.bits .and .i64 (Go.bits .or .i64 (Go.bits .or .i64 (wrap64 ((wrap64 (Go.bits .and .u8 (rd t300 7) 31)) * 65536)) (wrap64 ((wrap64 (rd t300 8)) * 256))) (wrap64 (rd t300 9))) (wrap64 ((Go.bits .or .i64 (Go.bits .or .i64 (wrap64 ((wrap64 (Go.bits .and .u8 (rd t300 7) 31)) * 65536)) (wrap64 ((wrap64 (rd t300 8)) * 256))) (wrap64 (rd t300 9))) - 1))) / 65536) % 256))).set (8 : Int).toNat (((Go.bits .and .i64 (Go.bits .or .i64 (Go.bits .or .i64 (wrap64 ((wrap64 (Go.bits .and .u8 (rd t300 7) 31)) * 65536)) (wrap64 ((wrap64 (rd t300 8)) * 256))) (wrap64 (rd t300 9))) (wrap64 ((Go.bits .or .i64 (Go.bits .or .i64 (wrap64 ((wrap64 (Go.bits .and .u8 (rd t300 7) 31)) * 65536)) (wrap64 ((wrap64 (rd t300 8)) * 256))) (wrap64 (rd t300 9))) - 1))) / 256) % 256)).set (9 : Int).toNat ((Go.bits .and .i64 (Go.bits .or .i64 (Go.bits .or .i64 (wrap64 ((wrap64 (Go.bits .and .u8 (rd t300 7) 31)) * 65536)) (wrap64 ((wrap64 (rd t300 8)) * 256))) (wrap64 (rd t300 9))) (wrap64 ((Go.bits .or .i64 (Go.bits .or .i64 (wrap64 ((wrap64 (Go.bits .and .u8 (rd t300 7) 31)) * 65536)) (wrap64 ((wrap64 (rd t300 8)) * 256))) (wrap64 (rd t300 9))) - 1))) % 256))).bind fun t332 => (if (t332.length : Int) = 16 then ((laws_xor.f k t332 (([192, 192, 192, 192, 0, 0, 0, 0, 192, 192, 192, 192, 0, 0, 0, 0] : List Int))).bind fun t338 => (if 8 ≤ (t338.length : Int) then (if 2 ≤ (t300.length : Int) then ((laws_xor.f k (t300.drop 2) (t338.drop 8)).bind fun t353 => ((impl_Des.f (t338.take 8) t353 false).bind fun t356 => (if 8 ≤ (t332.length : Int) then ((laws_xor.f k (t300.drop 2) (t332.drop 8)).bind fun t371 => ((impl_Des.f (t332.take 8) t371 false).bind fun t374 => (if (t356.length : Int) = 8 then (laws_FnDukpt.j0 k t311 t332 t338 t356 t374 ((t374.length : Int) != 8)) else (laws_FnDukpt.j0 k t311 t332 t338 t356 t374 true)))) else (none)))) else (none)) else (none))) else (some false))) else (none)) else (none)) else (none))) else (none)) = some r := by first | (rw [hy322]; with_reducible exact H) | (have H2_ := (Option.bind_some _ _).symm.trans H; rw [hy322]; with_reducible exact H2_) | (have H2_ := (Option.bind_some _ _).symm.trans H; with_reducible exact H2_) | with_reducible exact H | (rw [hy322]; exact H) | exact H
              have Ny322 := Aside0.mk hy322
              clear hy322
              by_cases c44 : y322.length + t300.length < 140737488355328
              · rw [if_pos c44] at H
                have LMc44 := Aside0.mk c44
                clear c44
                obtain ⟨y325, hy325⟩ : ∃ y_ : List Int, y_ = (y322 ++ t300) := ⟨_, rfl⟩
                replace H : (if 7 < (y325.length : Int) then (if 8 < (y325.length : Int) then (if 9 < (y325.length : Int) then ((impl_DukptKey.f t296 (((y325.set (7 : Int).toNat (Go.bits .or .u8 (Go.bits .and .u8 (rd y325 7) 224) (((Go.bits .and .i64 (Go.bits .or .i64 (Go.bits .or .i64 (wrap64 ((wrap64 (Go.bits .and .u8 (rd t300 7) 31)) * 65536)) (wrap64 ((wrap64 (rd t300 8)) * 256))) (wrap64 (rd t300 9))) (wrap64 ((Go.bits .or .i64 (Go.bits .or .i64 (wrap64 ((wrap64 (Go.bits .and .u8 (rd t300 7) 31)) * 65536)) (wrap64 ((wrap64 (rd t300 8)) * 256))) (wrap64 (rd t300 9))) - 1))) / 65536) % 256))).set (8 : Int).toNat (((Go.bits .and .i64 (Go.bits .or .i64 (Go.bits .or .i64 (wrap64 ((wrap64 (Go.bits .and .u8 (rd t300 7) 31)) * 65536)) (wrap64 ((wrap64 (rd t300 8)) * 256))) (wrap64 (rd t300 9))) (wrap64 ((Go.bits .or .i64 (Go.bits .or .i64 (wrap64 ((wrap64 (Go.bits .and .u8 (rd t300 7) 31)) * 65536)) (wrap64 ((wrap64 (rd t300 8)) * 256))) (wrap64 (rd t300 9))) - 1))) / 256) % 256)).set (9 : Int).toNat ((Go.bits .and .i64 (Go.bits .or .i64 (Go.bits .or .i64 (wrap64 ((wrap64 (Go.bits .and .u8 (rd t300 7) 31)) * 65536)) (wrap64 ((wrap64 (rd t300 8)) * 256))) (wrap64 (rd t300 9))) (wrap64 ((Go.bits .or .i64 (Go.bits .or .i64 (wrap64 ((wrap64 (Go.bits .and .u8 (rd t300 7) 31)) * 65536)) (wrap64 ((wrap64 (rd t300 8)) * 256))) (wrap64 (rd t300 9))) - 1))) % 256))).bind fun t332 => (if (t332.length : Int) = 16 then ((laws_xor.f k t332 (([192, 192, 192, 192, 0, 0, 0, 0, 192, 192, 192, 192, 0, 0, 0, 0] : List Int))).bind fun t338 => (if 8 ≤ (t338.length : Int) then (if 2 ≤ (t300.length : Int) then ((laws_xor.f k (t300.drop 2) (t338.drop 8)).bind fun t353 => ((impl_Des.f (t338.take 8) t353 false).bind fun t356 => (if 8 ≤ (t332.length : Int) then ((laws_xor.f k (t300.drop 2) (t332.drop 8)).bind fun t371 => ((impl_Des.f (t332.take 8) t371 false).bind fun t374 => (if (t356.length : Int) = 8 then (laws_FnDukpt.j0 k t311 t332 t338 t356 t374 ((t374.length : Int) != 8)) else (laws_FnDukpt.j0 k t311 t332 t338 t356 t374 true)))) else (none)))) else (none)) else (none))) else (some false))) else (none)) else (none)) else (none)) = some r := by first | (rw [hy325]; with_reducible exact H) | (have H2_ := (Option.bind_some _ _).symm.trans H; rw [hy325]; with_reducible exact H2_) | (have H2_ := (Option.bind_some _ _).symm.trans H; with_reducible exact H2_) | with_reducible exact H | (rw [hy325]; exact H) | exact H
                have Ny325 := Aside0.mk hy325
                clear hy325
                by_cases c45 : 7 < (y325.length : Int)
                · rw [if_pos c45] at H
                  have c45b0 : decide (7 < (y325.length : Int)) = true := decide_eq_true c45
                  have c45b1 : decide (7 < y325.length) = true := decide_eq_true (by omega)
                  clear c45
                  obtain ⟨y329, hy329⟩ : ∃ y_ : List Int, y_ = (y325.set (7 : Int).toNat (Go.bits .or .u8 (Go.bits .and .u8 (rd y325 7) 224) (((Go.bits .and .i64 (Go.bits .or .i64 (Go.bits .or .i64 (wrap64 ((wrap64 (Go.bits .and .u8 (rd t300 7) 31)) * 65536)) (wrap64 ((wrap64 (rd t300 8)) * 256))) (wrap64 (rd t300 9))) (wrap64 ((Go.bits .or .i64 (Go.bits .or .i64 (wrap64 ((wrap64 (Go.bits .and .u8 (rd t300 7) 31)) * 65536)) (wrap64 ((wrap64 (rd t300 8)) * 256))) (wrap64 (rd t300 9))) - 1))) / 65536) % 256))) := ⟨_, rfl⟩
                  replace H : (if 8 < (y325.length : Int) then (if 9 < (y325.length : Int) then ((impl_DukptKey.f t296 ((y329.set (8 : Int).toNat (((Go.bits .and .i64 (Go.bits .or .i64 (Go.bits .or .i64 (wrap64 ((wrap64 (Go.bits .and .u8 (rd t300 7) 31)) * 65536)) (wrap64 ((wrap64 (rd t300 8)) * 256))) (wrap64 (rd t300 9))) (wrap64 ((Go.bits .or .i64 (Go.bits .or .i64 (wrap64 ((wrap64 (Go.bits .and .u8 (rd t300 7) 31)) * 65536)) (wrap64 ((wrap64 (rd t300 8)) * 256))) (wrap64 (rd t300 9))) - 1))) / 256) % 256)).set (9 : Int).toNat ((Go.bits .and .i64 (Go.bits .or .i64 (Go.bits .or .i64 (wrap64 ((wrap64 (Go.bits .and .u8 (rd t300 7) 31)) * 65536)) (wrap64 ((wrap64 (rd t300 8)) * 256))) (wrap64 (rd t300 9))) (wrap64 ((Go.bits .or .i64 (Go.bits .or .i64 (wrap64 ((wrap64 (Go.bits .and .u8 (rd t300 7) 31)) * 65536)) (wrap64 ((wrap64 (rd t300 8)) * 256))) (wrap64 (rd t300 9))) - 1))) % 256))).bind fun t332 => (if (t332.length : Int) = 16 then ((laws_xor.f k t332 (([192, 192, 192, 192, 0, 0, 0, 0, 192, 192, 192, 192, 0, 0, 0, 0] : List Int))).bind fun t338 => (if 8 ≤ (t338.length : Int) then (if 2 ≤ (t300.length : Int) then ((laws_xor.f k (t300.drop 2) (t338.drop 8)).bind fun t353 => ((impl_Des.f (t338.take 8) t353 false).bind fun t356 => (if 8 ≤ (t332.length : Int) then ((laws_xor.f k (t300.drop 2) (t332.drop 8)).bind fun t371 => ((impl_Des.f (t332.take 8) t371 false).bind fun t374 => (if (t356.length : Int) = 8 then (laws_FnDukpt.j0 k t311 t332 t338 t356 t374 ((t374.length : Int) != 8)) else (laws_FnDukpt.j0 k t311 t332 t338 t356 t374 true)))) else (none)))) else (none)) else (none))) else (some false))) else (none)) else (none)) = some r := by first | (rw [hy329]; with_reducible exact H) | (have H2_ := (Option.bind_some _ _).symm.trans H; rw [hy329]; with_reducible exact H2_) | (have H2_ := (Option.bind_some _ _).symm.trans H; with_reducible exact H2_) | with_reducible exact H | (rw [hy329]; exact H) | exact H
                  have Ny329 := Aside0.mk hy329
                  clear hy329
                  by_cases c47 : 8 < (y325.length : Int)
                  · rw [if_pos c47] at H
                    have c47b0 : decide (8 < (y325.length : Int)) = true := decide_eq_true c47
                    have c47b1 : decide (8 < y325.length) = true := decide_eq_true (by omega)
                    clear c47
                    obtain ⟨y330, hy330⟩ : ∃ y_ : List Int, y_ = (y329.set (8 : Int).toNat (((Go.bits .and .i64 (Go.bits .or .i64 (Go.bits .or .i64 (wrap64 ((wrap64 (Go.bits .and .u8 (rd t300 7) 31)) * 65536)) (wrap64 ((wrap64 (rd t300 8)) * 256))) (wrap64 (rd t300 9))) (wrap64 ((Go.bits .or .i64 (Go.bits .or .i64 (wrap64 ((wrap64 (Go.bits .and .u8 (rd t300 7) 31)) * 65536)) (wrap64 ((wrap64 (rd t300 8)) * 256))) (wrap64 (rd t300 9))) - 1))) / 256) % 256)) := ⟨_, rfl⟩
                    replace H : (if 9 < (y325.length : Int) then ((impl_DukptKey.f t296 (y330.set (9 : Int).toNat ((Go.bits .and .i64 (Go.bits .or .i64 (Go.bits .or .i64 (wrap64 ((wrap64 (Go.bits .and .u8 (rd t300 7) 31)) * 65536)) (wrap64 ((wrap64 (rd t300 8)) * 256))) (wrap64 (rd t300 9))) (wrap64 ((Go.bits .or .i64 (Go.bits .or .i64 (wrap64 ((wrap64 (Go.bits .and .u8 (rd t300 7) 31)) * 65536)) (wrap64 ((wrap64 (rd t300 8)) * 256))) (wrap64 (rd t300 9))) - 1))) % 256))).bind fun t332 => (if (t332.length : Int) = 16 then ((laws_xor.f k t332 (([192, 192, 192, 192, 0, 0, 0, 0, 192, 192, 192, 192, 0, 0, 0, 0] : List Int))).bind fun t338 => (if 8 ≤ (t338.length : Int) then (if 2 ≤ (t300.length : Int) then ((laws_xor.f k (t300.drop 2) (t338.drop 8)).bind fun t353 => ((impl_Des.f (t338.take 8) t353 false).bind fun t356 => (if 8 ≤ (t332.length : Int) then ((laws_xor.f k (t300.drop 2) (t332.drop 8)).bind fun t371 => ((impl_Des.f (t332.take 8) t371 false).bind fun t374 => (if (t356.length : Int) = 8 then (laws_FnDukpt.j0 k t311 t332 t338 t356 t374 ((t374.length : Int) != 8)) else (laws_FnDukpt.j0 k t311 t332 t338 t356 t374 true)))) else (none)))) else (none)) else (none))) else (some false))) else (none)) = some r := by first | (rw [hy330]; with_reducible exact H) | (have H2_ := (Option.bind_some _ _).symm.trans H; rw [hy330]; with_reducible exact H2_) | (have H2_ := (Option.bind_some _ _).symm.trans H; with_reducible exact H2_) | with_reducible exact H | (rw [hy330]; exact H) | exact H
                    have Ny330 := Aside0.mk hy330
                    clear hy330
                    by_cases c49 : 9 < (y325.length : Int)
                    · rw [if_pos c49] at H
                      have c49b0 : decide (9 < (y325.length : Int)) = true := decide_eq_true c49
                      have c49b1 : decide (9 < y325.length) = true := decide_eq_true (by omega)
                      clear c49
                      obtain ⟨y331, hy331⟩ : ∃ y_ : List Int, y_ = (y330.set (9 : Int).toNat ((Go.bits .and .i64 (Go.bits .or .i64 (Go.bits .or .i64 (wrap64 ((wrap64 (Go.bits .and .u8 (rd t300 7) 31)) * 65536)) (wrap64 ((wrap64 (rd t300 8)) * 256))) (wrap64 (rd t300 9))) (wrap64 ((Go.bits .or .i64 (Go.bits .or .i64 (wrap64 ((wrap64 (Go.bits .and .u8 (rd t300 7) 31)) * 65536)) (wrap64 ((wrap64 (rd t300 8)) * 256))) (wrap64 (rd t300 9))) - 1))) % 256)) := ⟨_, rfl⟩
                      replace H : ((impl_DukptKey.f t296 y331).bind fun t332 => (if (t332.length : Int) = 16 then ((laws_xor.f k t332 (([192, 192, 192, 192, 0, 0, 0, 0, 192, 192, 192, 192, 0, 0, 0, 0] : List Int))).bind fun t338 => (if 8 ≤ (t338.length : Int) then (if 2 ≤ (t300.length : Int) then ((laws_xor.f k (t300.drop 2) (t338.drop 8)).bind fun t353 => ((impl_Des.f (t338.take 8) t353 false).bind fun t356 => (if 8 ≤ (t332.length : Int) then ((laws_xor.f k (t300.drop 2) (t332.drop 8)).bind fun t371 => ((impl_Des.f (t332.take 8) t371 false).bind fun t374 => (if (t356.length : Int) = 8 then (laws_FnDukpt.j0 k t311 t332 t338 t356 t374 ((t374.length : Int) != 8)) else (laws_FnDukpt.j0 k t311 t332 t338 t356 t374 true)))) else (none)))) else (none)) else (none))) else (some false))) = some r := by first | (rw [hy331]; with_reducible exact H) | (have H2_ := (Option.bind_some _ _).symm.trans H; rw [hy331]; with_reducible exact H2_) | (have H2_ := (Option.bind_some _ _).symm.trans H; with_reducible exact H2_) | with_reducible exact H | (rw [hy331]; exact H) | exact H
                      have Ny331 := Aside0.mk hy331
                      clear hy331
                      replace H := Option.bind_eq_some_iff.mp H
                      obtain ⟨t332, A510, H⟩ := H
                      replace H : (if (t332.length : Int) = 16 then ((laws_xor.f k t332 (([192, 192, 192, 192, 0, 0, 0, 0, 192, 192, 192, 192, 0, 0, 0, 0] : List Int))).bind fun t338 => (if 8 ≤ (t338.length : Int) then (if 2 ≤ (t300.length : Int) then ((laws_xor.f k (t300.drop 2) (t338.drop 8)).bind fun t353 => ((impl_Des.f (t338.take 8) t353 false).bind fun t356 => (if 8 ≤ (t332.length : Int) then ((laws_xor.f k (t300.drop 2) (t332.drop 8)).bind fun t371 => ((impl_Des.f (t332.take 8) t371 false).bind fun t374 => (if (t356.length : Int) = 8 then (laws_FnDukpt.j0 k t311 t332 t338 t356 t374 ((t374.length : Int) != 8)) else (laws_FnDukpt.j0 k t311 t332 t338 t356 t374 true)))) else (none)))) else (none)) else (none))) else (some false)) = some r := H
                      have A51 := Aside0.mk A510
                      clear A510
                      by_cases c52 : (t332.length : Int) = 16
                      · rw [if_pos c52] at H
                        have c52b0 : ((t332.length : Int) == 16) = true := beq_iff_eq.mpr c52
                        have c52b1 : ((t332.length : Int) != 16) = false := bne_eq_false_iff_eq.mpr c52
                        clear c52
                        obtain ⟨y335, hy335⟩ : ∃ y_ : List Int, y_ = (([192, 192, 192, 192, 0, 0, 0, 0, 192, 192, 192, 192, 0, 0, 0, 0] : List Int)) := ⟨_, rfl⟩
                        replace H : ((laws_xor.f k t332 y335).bind fun t338 => (if 8 ≤ (t338.length : Int) then (if 2 ≤ (t300.length : Int) then ((laws_xor.f k (t300.drop 2) (t338.drop 8)).bind fun t353 => ((impl_Des.f (t338.take 8) t353 false).bind fun t356 => (if 8 ≤ (t332.length : Int) then ((laws_xor.f k (t300.drop 2) (t332.drop 8)).bind fun t371 => ((impl_Des.f (t332.take 8) t371 false).bind fun t374 => (if (t356.length : Int) = 8 then (laws_FnDukpt.j0 k t311 t332 t338 t356 t374 ((t374.length : Int) != 8)) else (laws_FnDukpt.j0 k t311 t332 t338 t356 t374 true)))) else (none)))) else (none)) else (none))) = some r := by first | (rw [hy335]; with_reducible exact H) | (have H2_ := (Option.bind_some _ _).symm.trans H; rw [hy335]; with_reducible exact H2_) | (have H2_ := (Option.bind_some _ _).symm.trans H; with_reducible exact H2_) | with_reducible exact H | (rw [hy335]; exact H) | exact H
                        have Ny335 := Aside0.mk hy335
                        clear hy335
                        replace H := Option.bind_eq_some_iff.mp H
                        obtain ⟨t338, A530, H⟩ := H
                        replace H : (if 8 ≤ (t338.length : Int) then (if 2 ≤ (t300.length : Int) then ((laws_xor.f k (t300.drop 2) (t338.drop 8)).bind fun t353 => ((impl_Des.f (t338.take 8) t353 false).bind fun t356 => (if 8 ≤ (t332.length : Int) then ((laws_xor.f k (t300.drop 2) (t332.drop 8)).bind fun t371 => ((impl_Des.f (t332.take 8) t371 false).bind fun t374 => (if (t356.length : Int) = 8 then (laws_FnDukpt.j0 k t311 t332 t338 t356 t374 ((t374.length : Int) != 8)) else (laws_FnDukpt.j0 k t311 t332 t338 t356 t374 true)))) else (none)))) else (none)) else (none)) = some r := H
                        have A53 := Aside0.mk A530
                        clear A530
                        by_cases c54 : 8 ≤ (t338.length : Int)
                        · rw [if_pos c54] at H
                          have c54b0 := eq_true c54
                          have c54b1 : decide (8 ≤ (t338.length : Int)) = true := decide_eq_true c54
                          clear c54
                          obtain ⟨y341, hy341⟩ : ∃ y_ : List Int, y_ = (t338.take 8) := ⟨_, rfl⟩
                          replace H : (if 2 ≤ (t300.length : Int) then ((laws_xor.f k (t300.drop 2) (t338.drop 8)).bind fun t353 => ((impl_Des.f y341 t353 false).bind fun t356 => (if 8 ≤ (t332.length : Int) then ((laws_xor.f k (t300.drop 2) (t332.drop 8)).bind fun t371 => ((impl_Des.f (t332.take 8) t371 false).bind fun t374 => (if (t356.length : Int) = 8 then (laws_FnDukpt.j0 k t311 t332 t338 t356 t374 ((t374.length : Int) != 8)) else (laws_FnDukpt.j0 k t311 t332 t338 t356 t374 true)))) else (none)))) else (none)) = some r := by first | (rw [hy341]; with_reducible exact H) | (have H2_ := (Option.bind_some _ _).symm.trans H; rw [hy341]; with_reducible exact H2_) | (have H2_ := (Option.bind_some _ _).symm.trans H; with_reducible exact H2_) | with_reducible exact H | (rw [hy341]; exact H) | exact H
                          have Ny341 := Aside0.mk hy341
                          clear hy341
                          by_cases c55 : 2 ≤ (t300.length : Int)
                          · rw [if_pos c55] at H
                            have c55b0 := eq_true c55
                            have c55b1 : decide (2 ≤ (t300.length : Int)) = true := decide_eq_true c55
                            clear c55
                            obtain ⟨y345, hy345⟩ : ∃ y_ : List Int, y_ = (t300.drop 2) := ⟨_, rfl⟩
                            replace H : ((laws_xor.f k y345 (t338.drop 8)).bind fun t353 => ((impl_Des.f y341 t353 false).bind fun t356 => (if 8 ≤ (t332.length : Int) then ((laws_xor.f k (t300.drop 2) (t332.drop 8)).bind fun t371 => ((impl_Des.f (t332.take 8) t371 false).bind fun t374 => (if (t356.length : Int) = 8 then (laws_FnDukpt.j0 k t311 t332 t338 t356 t374 ((t374.length : Int) != 8)) else (laws_FnDukpt.j0 k t311 t332 t338 t356 t374 true)))) else (none)))) = some r := by first | (rw [hy345]; with_reducible exact H) | (have H2_ := (Option.bind_some _ _).symm.trans H; rw [hy345]; with_reducible exact H2_) | (have H2_ := (Option.bind_some _ _).symm.trans H; with_reducible exact H2_) | with_reducible exact H | (rw [hy345]; exact H) | exact H
                            have Ny345 := Aside0.mk hy345
                            clear hy345
                            have c56b0 := eq_true (of_decide_eq_true (by first | (with_reducible assumption) | assumption) : 8 ≤ (t338.length : Int))
                            obtain ⟨y349, hy349⟩ : ∃ y_ : List Int, y_ = (t338.drop 8) := ⟨_, rfl⟩
                            replace H : ((laws_xor.f k y345 y349).bind fun t353 => ((impl_Des.f y341 t353 false).bind fun t356 => (if 8 ≤ (t332.length : Int) then ((laws_xor.f k (t300.drop 2) (t332.drop 8)).bind fun t371 => ((impl_Des.f (t332.take 8) t371 false).bind fun t374 => (if (t356.length : Int) = 8 then (laws_FnDukpt.j0 k t311 t332 t338 t356 t374 ((t374.length : Int) != 8)) else (laws_FnDukpt.j0 k t311 t332 t338 t356 t374 true)))) else (none)))) = some r := by first | (rw [hy349]; with_reducible exact H) | (have H2_ := (Option.bind_some _ _).symm.trans H; rw [hy349]; with_reducible exact H2_) | (have H2_ := (Option.bind_some _ _).symm.trans H; with_reducible exact H2_) | with_reducible exact H | (rw [hy349]; exact H) | exact H
                            have Ny349 := Aside0.mk hy349
                            clear hy349
                            replace H := Option.bind_eq_some_iff.mp H
                            obtain ⟨t353, A570, H⟩ := H
                            replace H : ((impl_Des.f y341 t353 false).bind fun t356 => (if 8 ≤ (t332.length : Int) then ((laws_xor.f k (t300.drop 2) (t332.drop 8)).bind fun t371 => ((impl_Des.f (t332.take 8) t371 false).bind fun t374 => (if (t356.length : Int) = 8 then (laws_FnDukpt.j0 k t311 t332 t338 t356 t374 ((t374.length : Int) != 8)) else (laws_FnDukpt.j0 k t311 t332 t338 t356 t374 true)))) else (none))) = some r := H
                            have A57 := Aside0.mk A570
                            clear A570
                            replace H := Option.bind_eq_some_iff.mp H
                            obtain ⟨t356, A580, H⟩ := H
                            replace H : (if 8 ≤ (t332.length : Int) then ((laws_xor.f k (t300.drop 2) (t332.drop 8)).bind fun t371 => ((impl_Des.f (t332.take 8) t371 false).bind fun t374 => (if (t356.length : Int) = 8 then (laws_FnDukpt.j0 k t311 t332 t338 t356 t374 ((t374.length : Int) != 8)) else (laws_FnDukpt.j0 k t311 t332 t338 t356 t374 true)))) else (none)) = some r := H
                            have A58 := Aside0.mk A580
                            clear A580
                            by_cases c59 : 8 ≤ (t332.length : Int)
                            · rw [if_pos c59] at H
                              have c59b0 := eq_true c59
                              have c59b1 : decide (8 ≤ (t332.length : Int)) = true := decide_eq_true c59
                              clear c59
                              obtain ⟨y359, hy359⟩ : ∃ y_ : List Int, y_ = (t332.take 8) := ⟨_, rfl⟩
                              replace H : ((laws_xor.f k (t300.drop 2) (t332.drop 8)).bind fun t371 => ((impl_Des.f y359 t371 false).bind fun t374 => (if (t356.length : Int) = 8 then (laws_FnDukpt.j0 k t311 t332 t338 t356 t374 ((t374.length : Int) != 8)) else (laws_FnDukpt.j0 k t311 t332 t338 t356 t374 true)))) = some r := by first | (rw [hy359]; with_reducible exact H) | (have H2_ := (Option.bind_some _ _).symm.trans H; rw [hy359]; with_reducible exact H2_) | (have H2_ := (Option.bind_some _ _).symm.trans H; with_reducible exact H2_) | with_reducible exact H | (rw [hy359]; exact H) | exact H
                              have Ny359 := Aside0.mk hy359
                              clear hy359
                              have c60b0 := eq_true (of_decide_eq_true (by first | (with_reducible assumption) | assumption) : 2 ≤ (t300.length : Int))
                              obtain ⟨y363, hy363⟩ : ∃ y_ : List Int, y_ = (t300.drop 2) := ⟨_, rfl⟩
                              replace H : ((laws_xor.f k y363 (t332.drop 8)).bind fun t371 => ((impl_Des.f y359 t371 false).bind fun t374 => (if (t356.length : Int) = 8 then (laws_FnDukpt.j0 k t311 t332 t338 t356 t374 ((t374.length : Int) != 8)) else (laws_FnDukpt.j0 k t311 t332 t338 t356 t374 true)))) = some r := by first | (rw [hy363]; with_reducible exact H) | (have H2_ := (Option.bind_some _ _).symm.trans H; rw [hy363]; with_reducible exact H2_) | (have H2_ := (Option.bind_some _ _).symm.trans H; with_reducible exact H2_) | with_reducible exact H | (rw [hy363]; exact H) | exact H
                              have Ny363 := Aside0.mk hy363
                              clear hy363
                              have c61b0 := eq_true (of_decide_eq_true (by first | (with_reducible assumption) | assumption) : 8 ≤ (t332.length : Int))
                              obtain ⟨y367, hy367⟩ : ∃ y_ : List Int, y_ = (t332.drop 8) := ⟨_, rfl⟩
                              replace H : ((laws_xor.f k y363 y367).bind fun t371 => ((impl_Des.f y359 t371 false).bind fun t374 => (if (t356.length : Int) = 8 then (laws_FnDukpt.j0 k t311 t332 t338 t356 t374 ((t374.length : Int) != 8)) else (laws_FnDukpt.j0 k t311 t332 t338 t356 t374 true)))) = some r := by first | (rw [hy367]; with_reducible exact H) | (have H2_ := (Option.bind_some _ _).symm.trans H; rw [hy367]; with_reducible exact H2_) | (have H2_ := (Option.bind_some _ _).symm.trans H; with_reducible exact H2_) | with_reducible exact H | (rw [hy367]; exact H) | exact H
                              have Ny367 := Aside0.mk hy367
                              clear hy367
                              replace H := Option.bind_eq_some_iff.mp H
                              obtain ⟨t371, A620, H⟩ := H
                              replace H : ((impl_Des.f y359 t371 false).bind fun t374 => (if (t356.length : Int) = 8 then (laws_FnDukpt.j0 k t311 t332 t338 t356 t374 ((t374.length : Int) != 8)) else (laws_FnDukpt.j0 k t311 t332 t338 t356 t374 true))) = some r := H
                              have A62 := Aside0.mk A620
                              clear A620
                              replace H := Option.bind_eq_some_iff.mp H
                              obtain ⟨t374, A630, H⟩ := H
                              replace H : (if (t356.length : Int) = 8 then (laws_FnDukpt.j0 k t311 t332 t338 t356 t374 ((t374.length : Int) != 8)) else (laws_FnDukpt.j0 k t311 t332 t338 t356 t374 true)) = some r := H
                              have A63 := Aside0.mk A630
                              clear A630
                              have HC64 := Aside0.mk H
                              clear H
                              go_enter Tryd.func11, Tryd.ntmps11
                              try go_wp2_with (first | ((with_reducible refine gate_callee (f := 12) rfl ?_); refine goesL_ (some 19) rfl rfl Tryd.func12 (by kernel_rfl) rfl #[.slice A0 l0.length c0, .int .i64 0, .int .i64 16] rfl (by (try simp only [List.map_toArray, List.map_cons, List.map_nil]); first | done | rfl | (simp only [List.length_drop, List.length_take]; rfl)) ?_; (with_reducible refine (laws_cut.calls k _ _ l0 0 16 t296 _ ?side1 ?side2 A3.out).mono ?_); (case side1 => repeat (first | exact HR0.out | (with_reducible refine Kd.C_alloc ?_ _) | (with_reducible refine Kd.C_drewN ?_ _) | (with_reducible refine Kd.C_drew ?_))); (case side2 => exact HC0.out); rintro e w65 ⟨v297, rfl, ho0, hb⟩; refine ⟨_, rfl, ?_⟩; have n0_ := Aside0.mk (Kd.R_lower ho0 (below_size (by repeat (first | (with_reducible first | exact HB.out | apply below_alloc | apply pw_below_drewN | apply below_drew1) | exact HB.out)))); have n1_ := Aside0.mk (below_step (by repeat (first | (with_reducible first | exact HB.out | apply below_alloc | apply pw_below_drewN | apply below_drew1) | exact HB.out)) hb); clear HB; have HO298 := n0_; have HB := n1_; clear n0_ n1_; (try clear hb); (try clear hb2); (try clear hk); (try clear hi); (try clear ho0)) | ((with_reducible refine gate_callee (f := 33) rfl ?_); refine goesL_ (some 22) rfl rfl Tryd.func33 (by kernel_rfl) rfl #[.slice A0 l0.length c0] rfl (by (try simp only [List.map_toArray, List.map_cons, List.map_nil]); first | done | rfl | (simp only [List.length_drop, List.length_take]; rfl)) ?_; (with_reducible refine (spec_DrawDukptKey.calls _ _ l0 t299 t300 _ ?side1 ?side2 A4.out).mono ?_); (case side1 => repeat (first | exact (Kd.C_below HR0.out HB.out) | (with_reducible refine Kd.C_alloc ?_ _) | (with_reducible refine Kd.C_drewN ?_ _) | (with_reducible refine Kd.C_drew ?_))); (case side2 => exact HC0.out); rintro e w66 ⟨v301, v303, rfl, ho0, ho1, hb⟩; refine ⟨_, rfl, ?_⟩; have n0_ := Aside0.mk (Kd.R_mono (Kd.R_told (Kd.R_told (Kd.R_old (by (with_reducible repeat (first | apply Kd.R_alloc | apply Kd.R_drewN | apply Kd.R_drew)); exact HO298.out) hb) (Kd.R_base ho0)) (Kd.R_base ho1)) (fun _ h_ => h_.1)); have n1_ := Aside0.mk (Kd.R_lower (Kd.R_new' ho0 (Kd.R_lt (by (with_reducible repeat (first | apply Kd.R_alloc | apply Kd.R_drewN | apply Kd.R_drew)); exact HO298.out))) (below_size (by repeat (first | (with_reducible first | exact HB.out | apply below_alloc | apply pw_below_drewN | apply below_drew1) | exact HB.out)))); have n2_ := Aside0.mk (Kd.R_lower (Kd.R_new' ho1 (Kd.R_lt (by (with_reducible repeat (first | apply Kd.R_alloc | apply Kd.R_drewN | apply Kd.R_drew)); exact HO298.out))) (below_size (by repeat (first | (with_reducible first | exact HB.out | apply below_alloc | apply pw_below_drewN | apply below_drew1) | exact HB.out)))); have n3_ := Aside0.mk (below_step (by repeat (first | (with_reducible first | exact HB.out | apply below_alloc | apply pw_below_drewN | apply below_drew1) | exact HB.out)) hb); clear HO298; clear HB; have HO298 := n0_; have HO302 := n1_; have HO304 := n2_; have HB := n3_; clear n0_ n1_ n2_ n3_; (try clear hb); (try clear hb2); (try clear hk); (try clear hi); (try clear ho0); (try clear ho1); obtain ⟨Ao67, co67, eo67⟩ := Kd.R_slice HO304.out; subst eo67))
                              have n0_ := Aside0.mk (Kd.R_drew HO298.out)
                              have n1_ := Aside0.mk (Kd.R_drew HO302.out)
                              have n2_ := Aside0.mk (Kd.R_drew HO304.out)
                              have n3_ := Aside0.mk (below_drew1 HB.out)
                              clear HO298
                              clear HO302
                              clear HO304
                              clear HB
                              have HO298 := n0_
                              have HO302 := n1_
                              have HO304 := n2_
                              have HB := n3_
                              clear n0_ n1_ n2_ n3_
                              have p308 : 0 ≤ (7 : Int) := (by omega)
                              have q308 : 7 < (t300.length : Int) := of_decide_eq_true (by first | (with_reducible assumption) | assumption)
                              obtain ⟨ad308, e308, hx308_0⟩ := Kd.at_int (Kd.R_reads' HO304.out).2.2 7 p308 q308
                              cases e308
                              (try simp only [show (7 : Int).toNat = 7 from rfl, Nat.reduceMul, Nat.reduceEqDiff, Go.Addr.add, ↓reduceIte] at hx308_0)
                              have qi308 : (7 < t300.length) = True := eq_true (by omega)
                              (try rw [show ((7 : Int)).toNat = 7 from rfl] at hx308_0)
                              replace p308 := eq_true p308
                              replace q308 := eq_true q308
                              have p309 : 0 ≤ (8 : Int) := (by omega)
                              have q309 : 8 < (t300.length : Int) := of_decide_eq_true (by first | (with_reducible assumption) | assumption)
                              obtain ⟨ad309, e309, hx309_0⟩ := Kd.at_int (Kd.R_reads' HO304.out).2.2 8 p309 q309
                              obtain rfl : ad308 = ad309 := (by injection e309)
                              (try simp only [show (8 : Int).toNat = 8 from rfl, Nat.reduceMul, Nat.reduceEqDiff, Go.Addr.add, ↓reduceIte] at hx309_0)
                              have qi309 : (8 < t300.length) = True := eq_true (by omega)
                              (try rw [show ((8 : Int)).toNat = 8 from rfl] at hx309_0)
                              replace p309 := eq_true p309
                              replace q309 := eq_true q309
                              have p310 : 0 ≤ (9 : Int) := (by omega)
                              have q310 : 9 < (t300.length : Int) := of_decide_eq_true (by first | (with_reducible assumption) | assumption)
                              obtain ⟨ad310, e310, hx310_0⟩ := Kd.at_int (Kd.R_reads' HO304.out).2.2 9 p310 q310
                              obtain rfl : ad308 = ad310 := (by injection e310)
                              (try simp only [show (9 : Int).toNat = 9 from rfl, Nat.reduceMul, Nat.reduceEqDiff, Go.Addr.add, ↓reduceIte] at hx310_0)
                              have qi310 : (9 < t300.length) = True := eq_true (by omega)
                              (try rw [show ((9 : Int)).toNat = 9 from rfl] at hx310_0)
                              replace p310 := eq_true p310
                              replace q310 := eq_true q310
                              refine start_ (n := 18) (S := fun w' => w'.cell? ⟨ad308.block, ad308.off + 7, none⟩ = some (.int .u8 (rd t300 7)) ∧ w'.cell? ⟨ad308.block, ad308.off + 8, none⟩ = some (.int .u8 (rd t300 8)) ∧ w'.cell? ⟨ad308.block, ad308.off + 9, none⟩ = some (.int .u8 (rd t300 9))) (ds := []) #[false, false, false, false, false, false, false, false, false, false, false, false, false, false, false, false, false, false] (by kernel_rfl) rfl rfl ⟨hx308_0, hx309_0, hx310_0⟩ (fun hHeld => ?_); refine with_tabW laws_FnDukpt.tab7 laws_FnDukpt.bits7 (fun HT_ HW_ => ?_)
                              generalize w66.drew = w68 at HO298 HO302 HO304 HB hx308_0 hx309_0 hx310_0 hHeld ⊢
                              refine pure_ (i := 0) (N := some 33) (v := ?_) (a' := ?_) #[true, false, false, false, false, false, false, false, false, false, false, false, false, false, false, false, false, false] rfl rfl (any_of HT_.out (by kernel_rfl)) (fun _ _ _ h => h) (Or.inl ⟨by rfl, ?_⟩) ?_ ?_
                              rotate_left
                              · intro w'
                                go_simp
                                with_reducible rfl
                              rotate_left
                              · simp only [Act.put, List.setIfInBounds_toArray, List.set_cons_zero, List.set_cons_succ, i64_w, i32_w]
                                rfl
                              refine pure_ (i := 1) (N := some 34) (v := ?_) (a' := ?_) #[true, true, false, false, false, false, false, false, false, false, false, false, false, false, false, false, false, false] rfl rfl (any_of HT_.out (by kernel_rfl)) (fun _ _ _ h => h) (Or.inl ⟨by rfl, ?_⟩) ?_ ?_
                              rotate_left
                              · intro w'
                                go_simp
                                with_reducible rfl
                              rotate_left
                              · simp only [Act.put, List.setIfInBounds_toArray, List.set_cons_zero, List.set_cons_succ, i64_w, i32_w]
                                rfl
                              refine pure_ (i := 6) (N := some 39) (v := ?_) (a' := ?_) #[true, true, false, false, false, false, true, false, false, false, false, false, false, false, false, false, false, false] rfl rfl (any_of HT_.out (by kernel_rfl)) (fun _ _ _ h => h) (Or.inl ⟨by rfl, ?_⟩) ?_ ?_
                              rotate_left
                              · intro w'
                                go_simp
                                with_reducible rfl
                              rotate_left
                              · simp only [Act.put, List.setIfInBounds_toArray, List.set_cons_zero, List.set_cons_succ, i64_w, i32_w]
                                rfl
                              refine pure_ (i := 7) (N := some 40) (v := ?_) (a' := ?_) #[true, true, false, false, false, false, true, true, false, false, false, false, false, false, false, false, false, false] rfl rfl (any_of HT_.out (by kernel_rfl)) (fun _ _ _ h => h) (Or.inl ⟨by rfl, ?_⟩) ?_ ?_
                              rotate_left
                              · intro w'
                                go_simp
                                with_reducible rfl
                              rotate_left
                              · simp only [Act.put, List.setIfInBounds_toArray, List.set_cons_zero, List.set_cons_succ, i64_w, i32_w]
                                rfl
                              refine pure_ (i := 12) (N := some 45) (v := ?_) (a' := ?_) #[true, true, false, false, false, false, true, true, false, false, false, false, true, false, false, false, false, false] rfl rfl (any_of HT_.out (by kernel_rfl)) (fun _ _ _ h => h) (Or.inl ⟨by rfl, ?_⟩) ?_ ?_
                              rotate_left
                              · intro w'
                                go_simp
                                with_reducible rfl
                              rotate_left
                              · simp only [Act.put, List.setIfInBounds_toArray, List.set_cons_zero, List.set_cons_succ, i64_w, i32_w]
                                rfl
                              refine pure_ (i := 13) (N := some 46) (v := ?_) (a' := ?_) #[true, true, false, false, false, false, true, true, false, false, false, false, true, true, false, false, false, false] rfl rfl (any_of HT_.out (by kernel_rfl)) (fun _ _ _ h => h) (Or.inl ⟨by rfl, ?_⟩) ?_ ?_
                              rotate_left
                              · intro w'
                                go_simp
                                with_reducible rfl
                              rotate_left
                              · simp only [Act.put, List.setIfInBounds_toArray, List.set_cons_zero, List.set_cons_succ, i64_w, i32_w]
                                rfl
                              refine take_ (i := 2) (N := some 35) (v := ?_) (a' := ?_) #[true, true, true, false, false, false, true, true, false, false, false, false, true, true, false, false, false, false] rfl rfl (take_ofW HT_.out HW_.out (by kernel_rfl)) (fun _ _ _ h => h) (Or.inl ⟨by rfl, ?_⟩) hHeld ?_ ?_
                              rotate_left
                              · rintro w' ⟨s0, s1, s2⟩
                                go_simp
                                with_reducible rfl
                              rotate_left
                              · simp only [Act.put, List.setIfInBounds_toArray, List.set_cons_zero, List.set_cons_succ, i64_w, i32_w]
                                rfl
                              refine pure_ (i := 3) (N := some 36) (v := ?_) (a' := ?_) #[true, true, true, true, false, false, true, true, false, false, false, false, true, true, false, false, false, false] rfl rfl (any_of HT_.out (by kernel_rfl)) (fun _ _ _ h => h) (Or.inl ⟨by rfl, ?_⟩) ?_ ?_
                              rotate_left
                              · intro w'
                                go_simp
                                with_reducible rfl
                              rotate_left
                              · simp only [Act.put, List.setIfInBounds_toArray, List.set_cons_zero, List.set_cons_succ, i64_w, i32_w]
                                rfl
                              refine pure_ (i := 4) (N := some 37) (v := ?_) (a' := ?_) #[true, true, true, true, true, false, true, true, false, false, false, false, true, true, false, false, false, false] rfl rfl (any_of HT_.out (by kernel_rfl)) (fun _ _ _ h => h) (Or.inl ⟨by rfl, ?_⟩) ?_ ?_
                              rotate_left
                              · intro w'
                                go_simp
                                with_reducible rfl
                              rotate_left
                              · simp only [Act.put, List.setIfInBounds_toArray, List.set_cons_zero, List.set_cons_succ, i64_w, i32_w]
                                rfl
                              refine pure_ (i := 5) (N := some 38) (v := ?_) (a' := ?_) #[true, true, true, true, true, true, true, true, false, false, false, false, true, true, false, false, false, false] rfl rfl (any_of HT_.out (by kernel_rfl)) (fun _ _ _ h => h) (Or.inl ⟨by rfl, ?_⟩) ?_ ?_
                              rotate_left
                              · intro w'
                                go_simp
                                with_reducible rfl
                              rotate_left
                              · simp only [Act.put, List.setIfInBounds_toArray, List.set_cons_zero, List.set_cons_succ, i64_w, i32_w]
                                rfl
                              refine take_ (i := 8) (N := some 41) (v := ?_) (a' := ?_) #[true, true, true, true, true, true, true, true, true, false, false, false, true, true, false, false, false, false] rfl rfl (take_ofW HT_.out HW_.out (by kernel_rfl)) (fun _ _ _ h => h) (Or.inl ⟨by rfl, ?_⟩) hHeld ?_ ?_
                              rotate_left
                              · rintro w' ⟨s0, s1, s2⟩
                                go_simp
                                with_reducible rfl
                              rotate_left
                              · simp only [Act.put, List.setIfInBounds_toArray, List.set_cons_zero, List.set_cons_succ, i64_w, i32_w]
                                rfl
                              refine pure_ (i := 9) (N := some 42) (v := ?_) (a' := ?_) #[true, true, true, true, true, true, true, true, true, true, false, false, true, true, false, false, false, false] rfl rfl (any_of HT_.out (by kernel_rfl)) (fun _ _ _ h => h) (Or.inl ⟨by rfl, ?_⟩) ?_ ?_
                              rotate_left
                              · intro w'
                                go_simp
                                with_reducible rfl
                              rotate_left
                              · simp only [Act.put, List.setIfInBounds_toArray, List.set_cons_zero, List.set_cons_succ, i64_w, i32_w]
                                rfl
                              refine pure_ (i := 10) (N := some 43) (v := ?_) (a' := ?_) #[true, true, true, true, true, true, true, true, true, true, true, false, true, true, false, false, false, false] rfl rfl (any_of HT_.out (by kernel_rfl)) (fun _ _ _ h => h) (Or.inl ⟨by rfl, ?_⟩) ?_ ?_
                              rotate_left
                              · intro w'
                                go_simp
                                with_reducible rfl
                              rotate_left
                              · simp only [Act.put, List.setIfInBounds_toArray, List.set_cons_zero, List.set_cons_succ, i64_w, i32_w]
                                rfl
                              refine pure_ (i := 11) (N := some 44) (v := ?_) (a' := ?_) #[true, true, true, true, true, true, true, true, true, true, true, true, true, true, false, false, false, false] rfl rfl (any_of HT_.out (by kernel_rfl)) (fun _ _ _ h => h) (Or.inl ⟨by rfl, ?_⟩) ?_ ?_
                              rotate_left
                              · intro w'
                                go_simp
                                with_reducible rfl
                              rotate_left
                              · simp only [Act.put, List.setIfInBounds_toArray, List.set_cons_zero, List.set_cons_succ, i64_w, i32_w]
                                rfl
                              refine take_ (i := 14) (N := some 47) (v := ?_) (a' := ?_) #[true, true, true, true, true, true, true, true, true, true, true, true, true, true, true, false, false, false] rfl rfl (take_ofW HT_.out HW_.out (by kernel_rfl)) (fun _ _ _ h => h) (Or.inl ⟨by rfl, ?_⟩) hHeld ?_ ?_
                              rotate_left
                              · rintro w' ⟨s0, s1, s2⟩
                                go_simp
                                with_reducible rfl
                              rotate_left
                              · simp only [Act.put, List.setIfInBounds_toArray, List.set_cons_zero, List.set_cons_succ, i64_w, i32_w]
                                rfl
                              refine pure_ (i := 15) (N := some 48) (v := ?_) (a' := ?_) #[true, true, true, true, true, true, true, true, true, true, true, true, true, true, true, true, false, false] rfl rfl (any_of HT_.out (by kernel_rfl)) (fun _ _ _ h => h) (Or.inl ⟨by rfl, ?_⟩) ?_ ?_
                              rotate_left
                              · intro w'
                                go_simp
                                with_reducible rfl
                              rotate_left
                              · simp only [Act.put, List.setIfInBounds_toArray, List.set_cons_zero, List.set_cons_succ, i64_w, i32_w]
                                rfl
                              refine pure_ (i := 16) (N := some 49) (v := ?_) (a' := ?_) #[true, true, true, true, true, true, true, true, true, true, true, true, true, true, true, true, true, false] rfl rfl (any_of HT_.out (by kernel_rfl)) (fun _ _ _ h => h) (Or.inl ⟨by rfl, ?_⟩) ?_ ?_
                              rotate_left
                              · intro w'
                                go_simp
                                with_reducible rfl
                              rotate_left
                              · simp only [Act.put, List.setIfInBounds_toArray, List.set_cons_zero, List.set_cons_succ, i64_w, i32_w]
                                rfl
                              refine pure_ (i := 17) (N := some 6) (v := ?_) (a' := ?_) #[true, true, true, true, true, true, true, true, true, true, true, true, true, true, true, true, true, true] rfl rfl (any_of HT_.out (by kernel_rfl)) (fun _ _ _ h => h) (Or.inl ⟨by rfl, ?_⟩) ?_ ?_
                              rotate_left
                              · intro w'
                                go_simp
                                with_reducible rfl
                              rotate_left
                              · simp only [Act.put, List.setIfInBounds_toArray, List.set_cons_zero, List.set_cons_succ, i64_w, i32_w]
                                rfl
                              refine done_ (done_of HT_.out (by kernel_rfl)) ?_
                              obtain ⟨Ao69, co69, eo69⟩ := Kd.R_slice HO298.out
                              subst eo69
                              try go_wp2_with (first | ((with_reducible refine gate_callee (f := 32) rfl ?_); refine goesL_ (some 52) rfl rfl Tryd.func32 (by kernel_rfl) rfl #[.slice Ao69 t296.length co69, .slice (some ad308) t300.length co67] rfl (by (try simp only [List.map_toArray, List.map_cons, List.map_nil]); first | done | rfl | (simp only [List.length_drop, List.length_take]; rfl)) ?_; (with_reducible refine (impl_DukptKey.calls _ _ t296 _ _ t300 t311 _ ?side1 ?side2 ?side3 ?side4 A9.out ?sidetab).mono ?_); (case sidetab => exact HTab_.out.below (by repeat (first | (with_reducible first | exact HB.out | apply below_alloc | apply pw_below_drewN | apply below_drew1) | exact HB.out))); (case side1 => repeat (first | exact (Kd.R_reads' HO298.out).2.2 | (with_reducible refine Kd.C_alloc ?_ _) | (with_reducible refine Kd.C_drewN ?_ _) | (with_reducible refine Kd.C_drew ?_))); (case side2 => exact (Kd.R_reads' HO298.out).2.1); (case side3 => repeat (first | exact (Kd.R_reads' HO304.out).2.2 | (with_reducible refine Kd.C_alloc ?_ _) | (with_reducible refine Kd.C_drewN ?_ _) | (with_reducible refine Kd.C_drew ?_))); (case side4 => exact (Kd.R_reads' HO304.out).2.1); rintro e w70 ⟨v312, rfl, ho0, hb⟩; refine ⟨_, rfl, ?_⟩; have n0_ := Aside0.mk (Kd.R_elder' (by (with_reducible repeat (first | apply Kd.R_alloc | apply Kd.R_drewN | apply Kd.R_drew)); exact HO298.out) (Kd.R_base ho0) hb); have n1_ := Aside0.mk (Kd.R_elder' (by (with_reducible repeat (first | apply Kd.R_alloc | apply Kd.R_drewN | apply Kd.R_drew)); exact HO302.out) (Kd.R_base ho0) hb); have n2_ := Aside0.mk (Kd.R_elder' (by (with_reducible repeat (first | apply Kd.R_alloc | apply Kd.R_drewN | apply Kd.R_drew)); exact HO304.out) (Kd.R_base ho0) hb); have n3_ := Aside0.mk (Kd.R_lower (Kd.R_new' (Kd.R_new' (Kd.R_new' ho0 (Kd.R_lt (by (with_reducible repeat (first | apply Kd.R_alloc | apply Kd.R_drewN | apply Kd.R_drew)); exact HO298.out))) (Kd.R_lt (by (with_reducible repeat (first | apply Kd.R_alloc | apply Kd.R_drewN | apply Kd.R_drew)); exact HO302.out))) (Kd.R_lt (by (with_reducible repeat (first | apply Kd.R_alloc | apply Kd.R_drewN | apply Kd.R_drew)); exact HO304.out))) (below_size (by repeat (first | (with_reducible first | exact HB.out | apply below_alloc | apply pw_below_drewN | apply below_drew1) | exact HB.out)))); have n4_ := Aside0.mk (below_step (by repeat (first | (with_reducible first | exact HB.out | apply below_alloc | apply pw_below_drewN | apply below_drew1) | exact HB.out)) hb); clear HO298; clear HO302; clear HO304; clear HB; have HO298 := n0_; have HO302 := n1_; have HO304 := n2_; have HO313 := n3_; have HB := n4_; clear n0_ n1_ n2_ n3_ n4_; (try clear hb); (try clear hb2); (try clear hk); (try clear hi); (try clear ho0)) | ((with_reducible refine gate_dst (N := 76) rfl ?_); (try (refine gate_guard (by rfl) ?_; dsimp only)); refine Kd.R_lit (Kd.int .u8) _ 5 ?hg (N := 76) ?hd (xs := ([] : List Int)) (inner := []) (ok := fun _ => True) (okp := fun _ => True) ?hr ?hp (fun _ hk => hk) trivial (Below.refl _ _) (Nat.le_refl _) (by simp) ?_; (case hd => rfl); (case hg => rfl); (case hr => first | (go_simp; done) | (go_simp; rfl)); (case hp => exact (Reps.none _ _)); intro v323 w71 ho72 hb hg_ hnew_; clear hg_ hnew_; (first | rw [← Ny322.out] at ho72 | (simp only [Int.reduceToNat] at ho72; rw [← Ny322.out] at ho72)); have n0_ := Aside0.mk (Kd.R_elder' (by (with_reducible repeat (first | apply Kd.R_alloc | apply Kd.R_drewN | apply Kd.R_drew)); exact HO298.out) (Kd.R_base ho72) hb); have n1_ := Aside0.mk (Kd.R_elder' (by (with_reducible repeat (first | apply Kd.R_alloc | apply Kd.R_drewN | apply Kd.R_drew)); exact HO302.out) (Kd.R_base ho72) hb); have n2_ := Aside0.mk (Kd.R_elder' (by (with_reducible repeat (first | apply Kd.R_alloc | apply Kd.R_drewN | apply Kd.R_drew)); exact HO304.out) (Kd.R_base ho72) hb); have n3_ := Aside0.mk (Kd.R_elder' (by (with_reducible repeat (first | apply Kd.R_alloc | apply Kd.R_drewN | apply Kd.R_drew)); exact HO313.out) (Kd.R_base ho72) hb); have n4_ := Aside0.mk (Kd.R_lower (Kd.R_new' (Kd.R_new' (Kd.R_new' (Kd.R_new' ho72 (Kd.R_lt (by (with_reducible repeat (first | apply Kd.R_alloc | apply Kd.R_drewN | apply Kd.R_drew)); exact HO298.out))) (Kd.R_lt (by (with_reducible repeat (first | apply Kd.R_alloc | apply Kd.R_drewN | apply Kd.R_drew)); exact HO302.out))) (Kd.R_lt (by (with_reducible repeat (first | apply Kd.R_alloc | apply Kd.R_drewN | apply Kd.R_drew)); exact HO304.out))) (Kd.R_lt (by (with_reducible repeat (first | apply Kd.R_alloc | apply Kd.R_drewN | apply Kd.R_drew)); exact HO313.out))) (below_size (by repeat (first | (with_reducible first | exact HB.out | apply below_alloc | apply pw_below_drewN | apply below_drew1) | exact HB.out)))); have n5_ := Aside0.mk (below_step (by repeat (first | (with_reducible first | exact HB.out | apply below_alloc | apply pw_below_drewN | apply below_drew1) | exact HB.out)) hb); clear HO298; clear HO302; clear HO304; clear HO313; clear HB; have HO298 := n0_; have HO302 := n1_; have HO304 := n2_; have HO313 := n3_; have HO324 := n4_; have HB := n5_; clear n0_ n1_ n2_ n3_ n4_ n5_; clear hb ho72) | ((with_reducible refine gate_builtin (b := .append) (xs := #[.tmp 76, .tmp 77]) rfl ?_); (try (refine gate_guard (by rfl) ?_; dsimp only)); at_builtin; refine Kd.R_append_rows (Kd.int .u8) (w0 := w) w.heap.size rfl (.tmp 76) (.tmp 77) 22 5 (.int .u8 0) 1 rfl Tryd.underlying22 info5 rfl (by decide) (by omega) v323 y322 t300 _ _ _ (fun k_ => some k_ ≠ (.slice Ao69 t296.length co69 : Value).ownBlock ∧ some k_ ≠ (v301 : Value).ownBlock ∧ some k_ ≠ (.slice (some ad308) t300.length co67 : Value).ownBlock ∧ some k_ ≠ (v312 : Value).ownBlock) (fun _ => False) rfl rfl ?aO ?aR (fun _ _ h => h) (fun _ h => h.elim) ?aF ?aB ?aS ?aL ?_; (case aR => repeat (first | exact (Kd.R_reads' HO304.out).2.2 | (with_reducible refine Kd.C_alloc ?_ _) | (with_reducible refine Kd.C_drewN ?_ _) | (with_reducible refine Kd.C_drew ?_))); (case aB => exact (by repeat (first | (with_reducible first | exact HB.out | apply below_alloc | apply pw_below_drewN | apply below_drew1) | exact HB.out))); (case aF => exact (fun k_ hk => ⟨Kd.fresh' (Kd.R_lt (by (with_reducible repeat (first | apply Kd.R_alloc | apply Kd.R_drewN | apply Kd.R_drew)); exact HO298.out)) k_ hk, Kd.fresh' (Kd.R_lt (by (with_reducible repeat (first | apply Kd.R_alloc | apply Kd.R_drewN | apply Kd.R_drew)); exact HO302.out)) k_ hk, Kd.fresh' (Kd.R_lt (by (with_reducible repeat (first | apply Kd.R_alloc | apply Kd.R_drewN | apply Kd.R_drew)); exact HO304.out)) k_ hk, Kd.fresh' (Kd.R_lt (by (with_reducible repeat (first | apply Kd.R_alloc | apply Kd.R_drewN | apply Kd.R_drew)); exact HO313.out)) k_ hk⟩)); (case aO => exact (by (with_reducible repeat (first | apply Kd.R_alloc | apply Kd.R_drewN | apply Kd.R_drew)); exact Kd.R_mono HO324.out (fun _ hk => ⟨hk.1.1.1.2, ⟨hk.1.1.2, ⟨hk.1.2, hk.2⟩⟩⟩))); (case aS => exact (below_size (by repeat (first | (with_reducible first | exact HB.out | apply below_alloc | apply pw_below_drewN | apply below_drew1) | exact HB.out)))); (case aL => have := LMc44.out; omega); intro v326 w73 ho hb hg hat; rw [← Ny325.out] at ho; have n0_ := Aside0.mk (Kd.R_after (ok := (fun k_ => some k_ ≠ (v301 : Value).ownBlock ∧ some k_ ≠ (.slice (some ad308) t300.length co67 : Value).ownBlock ∧ some k_ ≠ (v312 : Value).ownBlock)) (by (with_reducible repeat (first | apply Kd.R_alloc | apply Kd.R_drewN | apply Kd.R_drew)); exact Kd.R_mono HO298.out (fun _ hk => ⟨⟨hk.1.1.1.2, ⟨hk.1.1.2, hk.1.2⟩⟩, hk.2⟩)) hg hat); have n1_ := Aside0.mk (Kd.R_after (ok := (fun k_ => some k_ ≠ (.slice Ao69 t296.length co69 : Value).ownBlock ∧ some k_ ≠ (.slice (some ad308) t300.length co67 : Value).ownBlock ∧ some k_ ≠ (v312 : Value).ownBlock)) (by (with_reducible repeat (first | apply Kd.R_alloc | apply Kd.R_drewN | apply Kd.R_drew)); exact Kd.R_mono HO302.out (fun _ hk => ⟨⟨hk.1.1.2, ⟨hk.1.1.1, hk.1.2⟩⟩, hk.2⟩)) hg hat); have n2_ := Aside0.mk (Kd.R_after (ok := (fun k_ => some k_ ≠ (.slice Ao69 t296.length co69 : Value).ownBlock ∧ some k_ ≠ (v301 : Value).ownBlock ∧ some k_ ≠ (v312 : Value).ownBlock)) (by (with_reducible repeat (first | apply Kd.R_alloc | apply Kd.R_drewN | apply Kd.R_drew)); exact Kd.R_mono HO304.out (fun _ hk => ⟨⟨hk.1.1.2, ⟨hk.1.1.1, hk.1.2⟩⟩, hk.2⟩)) hg hat); have n3_ := Aside0.mk (Kd.R_after (ok := (fun k_ => some k_ ≠ (.slice Ao69 t296.length co69 : Value).ownBlock ∧ some k_ ≠ (v301 : Value).ownBlock ∧ some k_ ≠ (.slice (some ad308) t300.length co67 : Value).ownBlock)) (by (with_reducible repeat (first | apply Kd.R_alloc | apply Kd.R_drewN | apply Kd.R_drew)); exact Kd.R_mono HO313.out (fun _ hk => ⟨⟨hk.1.1.1.2, ⟨hk.1.1.2, hk.1.2⟩⟩, hk.2⟩)) hg hat); have n4_ := Aside0.mk (hb); have n5_ := Aside0.mk (ho); clear HO298; clear HO302; clear HO304; clear HO313; clear HB; clear HO324; have HO298 := n0_; have HO302 := n1_; have HO304 := n2_; have HO313 := n3_; have HB := n4_; have HO327 := n5_; clear n0_ n1_ n2_ n3_ n4_ n5_; clear ho hb hg hat; obtain ⟨Ao74, co74, eo74⟩ := Kd.R_slice HO327.out; subst eo74; have p328 : 0 ≤ (7 : Int) := (by omega); have q328 : 7 < (y325.length : Int) := of_decide_eq_true (by first | (with_reducible assumption) | assumption); obtain ⟨ad328, e328, hx328_0⟩ := Kd.at_int (Kd.R_reads' HO327.out).2.2 7 p328 q328; cases e328; (try simp only [show (7 : Int).toNat = 7 from rfl, Nat.reduceMul, Nat.reduceEqDiff, Go.Addr.add, ↓reduceIte] at hx328_0); have qi328 : (7 < y325.length) = True := eq_true (by omega); (try rw [show ((7 : Int)).toNat = 7 from rfl] at hx328_0); replace p328 := eq_true p328; replace q328 := eq_true q328; have p46 : 0 ≤ (7 : Int) := (by omega); have q46 : (7 : Int) < ((y325.length : Int) : Int) := of_decide_eq_true (by first | (with_reducible assumption) | assumption); have qi46 : (7 < y325.length) = True := eq_true (by omega); obtain ⟨go46, co46, eo46, gb46, gl46, cl46, HG46⟩ := Kd.R_form HO327.out (by omega); (first | cases eo46 | (injection eo46 with ea_ en_ ec_; (first | subst ea_ | (injection ea_ with ea_; subst ea_)); subst ec_; clear en_)); have GB46 := Aside0.mk gb46; have GG46 := Aside0.mk HG46; clear gb46 gl46 HG46; (first | simp only [add_plain] at hx328_0 | skip); obtain ⟨hx46_0, hf46_0⟩ := Kd.R_celln 0 HO327.out (7 : Int) p46 q46; (try rw [show ((7 : Int)).toNat = 7 from rfl] at hx46_0); (try simp only [Nat.reduceMul, Nat.zero_mul, Nat.zero_add, Nat.reduceAdd] at hx46_0); (try rw [show ((7 : Int)).toNat = 7 from rfl] at hf46_0); (try simp only [Nat.reduceMul, Nat.zero_mul, Nat.zero_add, Nat.reduceAdd] at hf46_0); replace p46 := eq_true p46; replace q46 := eq_true q46; obtain ⟨hy75_, hz75_⟩ := Kd.R_celln 0 HO327.out (7 : Int) (by omega) (of_decide_eq_true (by first | (with_reducible assumption) | assumption)); (try simp only [Int.reduceToNat, Int.toNat_zero, Int.toNat_ofNat, Nat.reduceMul, Nat.zero_mul, Nat.zero_add] at hy75_ hz75_); (try rw [show ((7 : Int)).toNat = 7 from rfl] at hy75_); (try rw [show ((7 : Int)).toNat = 7 from rfl] at hz75_); have HP75 := Kd.R_putg HO327.out (7 : Int) (Go.bits .or .u8 (Go.bits .and .u8 (rd y325 7) 224) (((Go.bits .and .i64 (Go.bits .or .i64 (Go.bits .or .i64 (wrap64 ((wrap64 (Go.bits .and .u8 (rd t300 7) 31)) * 65536)) (wrap64 ((wrap64 (rd t300 8)) * 256))) (wrap64 (rd t300 9))) (wrap64 ((Go.bits .or .i64 (Go.bits .or .i64 (wrap64 ((wrap64 (Go.bits .and .u8 (rd t300 7) 31)) * 65536)) (wrap64 ((wrap64 (rd t300 8)) * 256))) (wrap64 (rd t300 9))) - 1))) / 65536) % 256))) | ((with_reducible refine gate_store (t := 5) (p := 88) rfl ?_); refine store_event (t := 5) (p := 88) (v := ?vo_w76) (w1 := (w73.setCell ⟨go46, (7 : Int).toNat, none⟩ (.int .u8 (Go.bits .or .u8 (Go.bits .and .u8 (rd y325 7) 224) (((Go.bits .and .i64 (Go.bits .or .i64 (Go.bits .or .i64 (wrap64 ((wrap64 (Go.bits .and .u8 (rd t300 7) 31)) * 65536)) (wrap64 ((wrap64 (rd t300 8)) * 256))) (wrap64 (rd t300 9))) (wrap64 ((Go.bits .or .i64 (Go.bits .or .i64 (wrap64 ((wrap64 (Go.bits .and .u8 (rd t300 7) 31)) * 65536)) (wrap64 ((wrap64 (rd t300 8)) * 256))) (wrap64 (rd t300 9))) - 1))) / 65536) % 256))))) ?hg ?ho ?hn ?hr ?_; (case ho => rfl); (case hg => rfl); (case hn => rfl); (case hr => first | (go_simp; done) | (go_simp; rfl)); intro w76 hw; have hg : w73.grownBy w76 (some go46) := (by rw [hw]; exact HP75.2); have hp_ : Kd.R (Kd.int .u8) 5 w76 w.heap.size (fun k_ => some k_ ≠ (.slice Ao69 t296.length co69 : Value).ownBlock ∧ some k_ ≠ (v301 : Value).ownBlock ∧ some k_ ≠ (.slice (some ad308) t300.length co67 : Value).ownBlock ∧ some k_ ≠ (v312 : Value).ownBlock) (.slice (some ⟨go46, 0, none⟩) y325.length co74) y329 := (by rw [hw, Ny329.out]; exact HP75.1); clear HP75; have n0_ := Aside0.mk (Kd.R_after (v := (.slice (some ⟨go46, 0, none⟩) y325.length co74)) (v1 := (.slice (some ⟨go46, 0, none⟩) y325.length co74)) (ok := (fun k_ => some k_ ≠ (v301 : Value).ownBlock ∧ some k_ ≠ (.slice (some ad308) t300.length co67 : Value).ownBlock ∧ some k_ ≠ (v312 : Value).ownBlock)) (by (with_reducible repeat (first | apply Kd.R_alloc | apply Kd.R_drewN | apply Kd.R_drew)); exact HO298.out) hg (.inl rfl)); have n1_ := Aside0.mk (Kd.R_after (v := (.slice (some ⟨go46, 0, none⟩) y325.length co74)) (v1 := (.slice (some ⟨go46, 0, none⟩) y325.length co74)) (ok := (fun k_ => some k_ ≠ (.slice Ao69 t296.length co69 : Value).ownBlock ∧ some k_ ≠ (.slice (some ad308) t300.length co67 : Value).ownBlock ∧ some k_ ≠ (v312 : Value).ownBlock)) (by (with_reducible repeat (first | apply Kd.R_alloc | apply Kd.R_drewN | apply Kd.R_drew)); exact HO302.out) hg (.inl rfl)); have n2_ := Aside0.mk (Kd.R_after (v := (.slice (some ⟨go46, 0, none⟩) y325.length co74)) (v1 := (.slice (some ⟨go46, 0, none⟩) y325.length co74)) (ok := (fun k_ => some k_ ≠ (.slice Ao69 t296.length co69 : Value).ownBlock ∧ some k_ ≠ (v301 : Value).ownBlock ∧ some k_ ≠ (v312 : Value).ownBlock)) (by (with_reducible repeat (first | apply Kd.R_alloc | apply Kd.R_drewN | apply Kd.R_drew)); exact HO304.out) hg (.inl rfl)); have n3_ := Aside0.mk (Kd.R_after (v := (.slice (some ⟨go46, 0, none⟩) y325.length co74)) (v1 := (.slice (some ⟨go46, 0, none⟩) y325.length co74)) (ok := (fun k_ => some k_ ≠ (.slice Ao69 t296.length co69 : Value).ownBlock ∧ some k_ ≠ (v301 : Value).ownBlock ∧ some k_ ≠ (.slice (some ad308) t300.length co67 : Value).ownBlock)) (by (with_reducible repeat (first | apply Kd.R_alloc | apply Kd.R_drewN | apply Kd.R_drew)); exact HO313.out) hg (.inl rfl)); have n4_ := Aside0.mk (hp_); have n5_ := Aside0.mk ((by rw [hw]; exact below_set (HB.out) GB46.out : Below w.heap.size w w76)); clear HO298; clear HO302; clear HO304; clear HO313; clear HO327; clear HB; have HO298 := n0_; have HO302 := n1_; have HO304 := n2_; have HO313 := n3_; have HO327 := n4_; have HB := n5_; clear n0_ n1_ n2_ n3_ n4_ n5_; clear hg hw hp_; have p48 : 0 ≤ (8 : Int) := (by omega); have q48 : (8 : Int) < ((y325.length : Int) : Int) := of_decide_eq_true (by first | (with_reducible assumption) | assumption); have qi48 : (8 < y325.length) = True := eq_true (by omega); obtain ⟨hx48_0, hf48_0⟩ := Kd.R_celln 0 HO327.out (8 : Int) p48 q48; (try rw [show ((8 : Int)).toNat = 8 from rfl] at hx48_0); (try simp only [Nat.reduceMul, Nat.zero_mul, Nat.zero_add, Nat.reduceAdd] at hx48_0); (try rw [show ((8 : Int)).toNat = 8 from rfl] at hf48_0); (try simp only [Nat.reduceMul, Nat.zero_mul, Nat.zero_add, Nat.reduceAdd] at hf48_0); replace p48 := eq_true p48; replace q48 := eq_true q48; obtain ⟨hy77_, hz77_⟩ := Kd.R_celln 0 HO327.out (8 : Int) (by omega) (of_decide_eq_true (by first | (with_reducible assumption) | assumption)); (try simp only [Int.reduceToNat, Int.toNat_zero, Int.toNat_ofNat, Nat.reduceMul, Nat.zero_mul, Nat.zero_add] at hy77_ hz77_); (try rw [show ((8 : Int)).toNat = 8 from rfl] at hy77_); (try rw [show ((8 : Int)).toNat = 8 from rfl] at hz77_); have HP77 := Kd.R_putg HO327.out (8 : Int) (((Go.bits .and .i64 (Go.bits .or .i64 (Go.bits .or .i64 (wrap64 ((wrap64 (Go.bits .and .u8 (rd t300 7) 31)) * 65536)) (wrap64 ((wrap64 (rd t300 8)) * 256))) (wrap64 (rd t300 9))) (wrap64 ((Go.bits .or .i64 (Go.bits .or .i64 (wrap64 ((wrap64 (Go.bits .and .u8 (rd t300 7) 31)) * 65536)) (wrap64 ((wrap64 (rd t300 8)) * 256))) (wrap64 (rd t300 9))) - 1))) / 256) % 256)) | ((with_reducible refine gate_store (t := 5) (p := 93) rfl ?_); refine store_event (t := 5) (p := 93) (v := ?vo_w78) (w1 := (w76.setCell ⟨go46, (8 : Int).toNat, none⟩ (.int .u8 (((Go.bits .and .i64 (Go.bits .or .i64 (Go.bits .or .i64 (wrap64 ((wrap64 (Go.bits .and .u8 (rd t300 7) 31)) * 65536)) (wrap64 ((wrap64 (rd t300 8)) * 256))) (wrap64 (rd t300 9))) (wrap64 ((Go.bits .or .i64 (Go.bits .or .i64 (wrap64 ((wrap64 (Go.bits .and .u8 (rd t300 7) 31)) * 65536)) (wrap64 ((wrap64 (rd t300 8)) * 256))) (wrap64 (rd t300 9))) - 1))) / 256) % 256)))) ?hg ?ho ?hn ?hr ?_; (case ho => rfl); (case hg => rfl); (case hn => rfl); (case hr => first | (go_simp; done) | (go_simp; rfl)); intro w78 hw; have hg : w76.grownBy w78 (some go46) := (by rw [hw]; exact HP77.2); have hp_ : Kd.R (Kd.int .u8) 5 w78 w.heap.size (fun k_ => some k_ ≠ (.slice Ao69 t296.length co69 : Value).ownBlock ∧ some k_ ≠ (v301 : Value).ownBlock ∧ some k_ ≠ (.slice (some ad308) t300.length co67 : Value).ownBlock ∧ some k_ ≠ (v312 : Value).ownBlock) (.slice (some ⟨go46, 0, none⟩) y325.length co74) y330 := (by rw [hw, Ny330.out]; exact HP77.1); clear HP77; have n0_ := Aside0.mk (Kd.R_after (v := (.slice (some ⟨go46, 0, none⟩) y325.length co74)) (v1 := (.slice (some ⟨go46, 0, none⟩) y325.length co74)) (ok := (fun k_ => some k_ ≠ (v301 : Value).ownBlock ∧ some k_ ≠ (.slice (some ad308) t300.length co67 : Value).ownBlock ∧ some k_ ≠ (v312 : Value).ownBlock)) (by (with_reducible repeat (first | apply Kd.R_alloc | apply Kd.R_drewN | apply Kd.R_drew)); exact HO298.out) hg (.inl rfl)); have n1_ := Aside0.mk (Kd.R_after (v := (.slice (some ⟨go46, 0, none⟩) y325.length co74)) (v1 := (.slice (some ⟨go46, 0, none⟩) y325.length co74)) (ok := (fun k_ => some k_ ≠ (.slice Ao69 t296.length co69 : Value).ownBlock ∧ some k_ ≠ (.slice (some ad308) t300.length co67 : Value).ownBlock ∧ some k_ ≠ (v312 : Value).ownBlock)) (by (with_reducible repeat (first | apply Kd.R_alloc | apply Kd.R_drewN | apply Kd.R_drew)); exact HO302.out) hg (.inl rfl)); have n2_ := Aside0.mk (Kd.R_after (v := (.slice (some ⟨go46, 0, none⟩) y325.length co74)) (v1 := (.slice (some ⟨go46, 0, none⟩) y325.length co74)) (ok := (fun k_ => some k_ ≠ (.slice Ao69 t296.length co69 : Value).ownBlock ∧ some k_ ≠ (v301 : Value).ownBlock ∧ some k_ ≠ (v312 : Value).ownBlock)) (by (with_reducible repeat (first | apply Kd.R_alloc | apply Kd.R_drewN | apply Kd.R_drew)); exact HO304.out) hg (.inl rfl)); have n3_ := Aside0.mk (Kd.R_after (v := (.slice (some ⟨go46, 0, none⟩) y325.length co74)) (v1 := (.slice (some ⟨go46, 0, none⟩) y325.length co74)) (ok := (fun k_ => some k_ ≠ (.slice Ao69 t296.length co69 : Value).ownBlock ∧ some k_ ≠ (v301 : Value).ownBlock ∧ some k_ ≠ (.slice (some ad308) t300.length co67 : Value).ownBlock)) (by (with_reducible repeat (first | apply Kd.R_alloc | apply Kd.R_drewN | apply Kd.R_drew)); exact HO313.out) hg (.inl rfl)); have n4_ := Aside0.mk (hp_); have n5_ := Aside0.mk ((by rw [hw]; exact below_set (HB.out) GB46.out : Below w.heap.size w w78)); clear HO298; clear HO302; clear HO304; clear HO313; clear HO327; clear HB; have HO298 := n0_; have HO302 := n1_; have HO304 := n2_; have HO313 := n3_; have HO327 := n4_; have HB := n5_; clear n0_ n1_ n2_ n3_ n4_ n5_; clear hg hw hp_; have p50 : 0 ≤ (9 : Int) := (by omega); have q50 : (9 : Int) < ((y325.length : Int) : Int) := of_decide_eq_true (by first | (with_reducible assumption) | assumption); have qi50 : (9 < y325.length) = True := eq_true (by omega); obtain ⟨hx50_0, hf50_0⟩ := Kd.R_celln 0 HO327.out (9 : Int) p50 q50; (try rw [show ((9 : Int)).toNat = 9 from rfl] at hx50_0); (try simp only [Nat.reduceMul, Nat.zero_mul, Nat.zero_add, Nat.reduceAdd] at hx50_0); (try rw [show ((9 : Int)).toNat = 9 from rfl] at hf50_0); (try simp only [Nat.reduceMul, Nat.zero_mul, Nat.zero_add, Nat.reduceAdd] at hf50_0); replace p50 := eq_true p50; replace q50 := eq_true q50; obtain ⟨hy79_, hz79_⟩ := Kd.R_celln 0 HO327.out (9 : Int) (by omega) (of_decide_eq_true (by first | (with_reducible assumption) | assumption)); (try simp only [Int.reduceToNat, Int.toNat_zero, Int.toNat_ofNat, Nat.reduceMul, Nat.zero_mul, Nat.zero_add] at hy79_ hz79_); (try rw [show ((9 : Int)).toNat = 9 from rfl] at hy79_); (try rw [show ((9 : Int)).toNat = 9 from rfl] at hz79_); have HP79 := Kd.R_putg HO327.out (9 : Int) ((Go.bits .and .i64 (Go.bits .or .i64 (Go.bits .or .i64 (wrap64 ((wrap64 (Go.bits .and .u8 (rd t300 7) 31)) * 65536)) (wrap64 ((wrap64 (rd t300 8)) * 256))) (wrap64 (rd t300 9))) (wrap64 ((Go.bits .or .i64 (Go.bits .or .i64 (wrap64 ((wrap64 (Go.bits .and .u8 (rd t300 7) 31)) * 65536)) (wrap64 ((wrap64 (rd t300 8)) * 256))) (wrap64 (rd t300 9))) - 1))) % 256)) | ((with_reducible refine gate_store (t := 5) (p := 97) rfl ?_); refine store_event (t := 5) (p := 97) (v := ?vo_w80) (w1 := (w78.setCell ⟨go46, (9 : Int).toNat, none⟩ (.int .u8 ((Go.bits .and .i64 (Go.bits .or .i64 (Go.bits .or .i64 (wrap64 ((wrap64 (Go.bits .and .u8 (rd t300 7) 31)) * 65536)) (wrap64 ((wrap64 (rd t300 8)) * 256))) (wrap64 (rd t300 9))) (wrap64 ((Go.bits .or .i64 (Go.bits .or .i64 (wrap64 ((wrap64 (Go.bits .and .u8 (rd t300 7) 31)) * 65536)) (wrap64 ((wrap64 (rd t300 8)) * 256))) (wrap64 (rd t300 9))) - 1))) % 256)))) ?hg ?ho ?hn ?hr ?_; (case ho => rfl); (case hg => rfl); (case hn => rfl); (case hr => first | (go_simp; done) | (go_simp; rfl)); intro w80 hw; have hg : w78.grownBy w80 (some go46) := (by rw [hw]; exact HP79.2); have hp_ : Kd.R (Kd.int .u8) 5 w80 w.heap.size (fun k_ => some k_ ≠ (.slice Ao69 t296.length co69 : Value).ownBlock ∧ some k_ ≠ (v301 : Value).ownBlock ∧ some k_ ≠ (.slice (some ad308) t300.length co67 : Value).ownBlock ∧ some k_ ≠ (v312 : Value).ownBlock) (.slice (some ⟨go46, 0, none⟩) y325.length co74) y331 := (by rw [hw, Ny331.out]; exact HP79.1); clear HP79; have n0_ := Aside0.mk (Kd.R_after (v := (.slice (some ⟨go46, 0, none⟩) y325.length co74)) (v1 := (.slice (some ⟨go46, 0, none⟩) y325.length co74)) (ok := (fun k_ => some k_ ≠ (v301 : Value).ownBlock ∧ some k_ ≠ (.slice (some ad308) t300.length co67 : Value).ownBlock ∧ some k_ ≠ (v312 : Value).ownBlock)) (by (with_reducible repeat (first | apply Kd.R_alloc | apply Kd.R_drewN | apply Kd.R_drew)); exact HO298.out) hg (.inl rfl)); have n1_ := Aside0.mk (Kd.R_after (v := (.slice (some ⟨go46, 0, none⟩) y325.length co74)) (v1 := (.slice (some ⟨go46, 0, none⟩) y325.length co74)) (ok := (fun k_ => some k_ ≠ (.slice Ao69 t296.length co69 : Value).ownBlock ∧ some k_ ≠ (.slice (some ad308) t300.length co67 : Value).ownBlock ∧ some k_ ≠ (v312 : Value).ownBlock)) (by (with_reducible repeat (first | apply Kd.R_alloc | apply Kd.R_drewN | apply Kd.R_drew)); exact HO302.out) hg (.inl rfl)); have n2_ := Aside0.mk (Kd.R_after (v := (.slice (some ⟨go46, 0, none⟩) y325.length co74)) (v1 := (.slice (some ⟨go46, 0, none⟩) y325.length co74)) (ok := (fun k_ => some k_ ≠ (.slice Ao69 t296.length co69 : Value).ownBlock ∧ some k_ ≠ (v301 : Value).ownBlock ∧ some k_ ≠ (v312 : Value).ownBlock)) (by (with_reducible repeat (first | apply Kd.R_alloc | apply Kd.R_drewN | apply Kd.R_drew)); exact HO304.out) hg (.inl rfl)); have n3_ := Aside0.mk (Kd.R_after (v := (.slice (some ⟨go46, 0, none⟩) y325.length co74)) (v1 := (.slice (some ⟨go46, 0, none⟩) y325.length co74)) (ok := (fun k_ => some k_ ≠ (.slice Ao69 t296.length co69 : Value).ownBlock ∧ some k_ ≠ (v301 : Value).ownBlock ∧ some k_ ≠ (.slice (some ad308) t300.length co67 : Value).ownBlock)) (by (with_reducible repeat (first | apply Kd.R_alloc | apply Kd.R_drewN | apply Kd.R_drew)); exact HO313.out) hg (.inl rfl)); have n4_ := Aside0.mk (hp_); have n5_ := Aside0.mk ((by rw [hw]; exact below_set (HB.out) GB46.out : Below w.heap.size w w80)); clear HO298; clear HO302; clear HO304; clear HO313; clear HO327; clear HB; have HO298 := n0_; have HO302 := n1_; have HO304 := n2_; have HO313 := n3_; have HO327 := n4_; have HB := n5_; clear n0_ n1_ n2_ n3_ n4_ n5_; clear hg hw hp_) | ((with_reducible refine gate_callee (f := 32) rfl ?_); refine goesL_ (some 100) rfl rfl Tryd.func32 (by kernel_rfl) rfl #[.slice Ao69 t296.length co69, .slice (some ⟨go46, 0, none⟩) y331.length co74] rfl (by (try simp only [List.map_toArray, List.map_cons, List.map_nil]); first | done | (rw [show y331.length = y325.length from (Kd.R_reads' HO327.out).1.symm] <;> rfl) | rfl | (simp only [List.length_drop, List.length_take]; rfl)) ?_; (with_reducible refine (impl_DukptKey.calls _ _ t296 _ _ y331 t332 _ ?side1 ?side2 ?side3 ?side4 A51.out ?sidetab).mono ?_); (case sidetab => exact HTab_.out.below (by repeat (first | (with_reducible first | exact HB.out | apply below_alloc | apply pw_below_drewN | apply below_drew1) | exact HB.out))); (case side1 => repeat (first | exact (Kd.R_reads' HO298.out).2.2 | (with_reducible refine Kd.C_alloc ?_ _) | (with_reducible refine Kd.C_drewN ?_ _) | (with_reducible refine Kd.C_drew ?_))); (case side2 => exact (Kd.R_reads' HO298.out).2.1); (case side3 => repeat (first | exact (Kd.R_reads' HO327.out).2.2 | (with_reducible refine Kd.C_alloc ?_ _) | (with_reducible refine Kd.C_drewN ?_ _) | (with_reducible refine Kd.C_drew ?_))); (case side4 => rw [show y331.length = y325.length from (Kd.R_reads' HO327.out).1.symm]; exact (Kd.R_reads' HO327.out).2.1); rintro e w81 ⟨v333, rfl, ho0, hb⟩; refine ⟨_, rfl, ?_⟩; have n0_ := Aside0.mk (Kd.R_elder' (by (with_reducible repeat (first | apply Kd.R_alloc | apply Kd.R_drewN | apply Kd.R_drew)); exact HO298.out) (Kd.R_base ho0) hb); have n1_ := Aside0.mk (Kd.R_elder' (by (with_reducible repeat (first | apply Kd.R_alloc | apply Kd.R_drewN | apply Kd.R_drew)); exact HO302.out) (Kd.R_base ho0) hb); have n2_ := Aside0.mk (Kd.R_elder' (by (with_reducible repeat (first | apply Kd.R_alloc | apply Kd.R_drewN | apply Kd.R_drew)); exact HO304.out) (Kd.R_base ho0) hb); have n3_ := Aside0.mk (Kd.R_elder' (by (with_reducible repeat (first | apply Kd.R_alloc | apply Kd.R_drewN | apply Kd.R_drew)); exact HO313.out) (Kd.R_base ho0) hb); have n4_ := Aside0.mk (Kd.R_elder' (by (with_reducible repeat (first | apply Kd.R_alloc | apply Kd.R_drewN | apply Kd.R_drew)); exact HO327.out) (Kd.R_base ho0) hb); have n5_ := Aside0.mk (Kd.R_lower (Kd.R_new' (Kd.R_new' (Kd.R_new' (Kd.R_new' (Kd.R_new' ho0 (Kd.R_lt (by (with_reducible repeat (first | apply Kd.R_alloc | apply Kd.R_drewN | apply Kd.R_drew)); exact HO298.out))) (Kd.R_lt (by (with_reducible repeat (first | apply Kd.R_alloc | apply Kd.R_drewN | apply Kd.R_drew)); exact HO302.out))) (Kd.R_lt (by (with_reducible repeat (first | apply Kd.R_alloc | apply Kd.R_drewN | apply Kd.R_drew)); exact HO304.out))) (Kd.R_lt (by (with_reducible repeat (first | apply Kd.R_alloc | apply Kd.R_drewN | apply Kd.R_drew)); exact HO313.out))) (Kd.R_lt (by (with_reducible repeat (first | apply Kd.R_alloc | apply Kd.R_drewN | apply Kd.R_drew)); exact HO327.out))) (below_size (by repeat (first | (with_reducible first | exact HB.out | apply below_alloc | apply pw_below_drewN | apply below_drew1) | exact HB.out)))); have n6_ := Aside0.mk (below_step (by repeat (first | (with_reducible first | exact HB.out | apply below_alloc | apply pw_below_drewN | apply below_drew1) | exact HB.out)) hb); clear HO298; clear HO302; clear HO304; clear HO313; clear HO327; clear HB; have HO298 := n0_; have HO302 := n1_; have HO304 := n2_; have HO313 := n3_; have HO327 := n4_; have HO334 := n5_; have HB := n6_; clear n0_ n1_ n2_ n3_ n4_ n5_ n6_; (try clear hb); (try clear hb2); (try clear hk); (try clear hi); (try clear ho0); obtain ⟨Ao82, co82, eo82⟩ := Kd.R_slice HO334.out; subst eo82) | ((with_reducible refine gate_dst (N := 104) rfl ?_); (try (refine gate_guard (by rfl) ?_; dsimp only)); refine Kd.R_lit (Kd.int .u8) _ 5 ?hg (N := 104) ?hd (xs := ([192, 192, 192, 192, 0, 0, 0, 0, 192, 192, 192, 192, 0, 0, 0, 0] : List Int)) (inner := [.int .u8 192, .int .u8 192, .int .u8 192, .int .u8 192, .int .u8 0, .int .u8 0, .int .u8 0, .int .u8 0, .int .u8 192, .int .u8 192, .int .u8 192, .int .u8 192, .int .u8 0, .int .u8 0, .int .u8 0, .int .u8 0]) (ok := fun _ => True) (okp := fun _ => True) ?hr ?hp (fun _ hk => hk) trivial (Below.refl _ _) (Nat.le_refl _) (by simp) ?_; (case hd => rfl); (case hg => rfl); (case hr => first | (go_simp; done) | (go_simp; rfl)); (case hp => exact (Reps.one (show Kd.M (Kd.int .u8) _ _ _ 192 [.int .u8 192] from rfl) (Reps.one (show Kd.M (Kd.int .u8) _ _ _ 192 [.int .u8 192] from rfl) (Reps.one (show Kd.M (Kd.int .u8) _ _ _ 192 [.int .u8 192] from rfl) (Reps.one (show Kd.M (Kd.int .u8) _ _ _ 192 [.int .u8 192] from rfl) (Reps.one (show Kd.M (Kd.int .u8) _ _ _ 0 [.int .u8 0] from rfl) (Reps.one (show Kd.M (Kd.int .u8) _ _ _ 0 [.int .u8 0] from rfl) (Reps.one (show Kd.M (Kd.int .u8) _ _ _ 0 [.int .u8 0] from rfl) (Reps.one (show Kd.M (Kd.int .u8) _ _ _ 0 [.int .u8 0] from rfl) (Reps.one (show Kd.M (Kd.int .u8) _ _ _ 192 [.int .u8 192] from rfl) (Reps.one (show Kd.M (Kd.int .u8) _ _ _ 192 [.int .u8 192] from rfl) (Reps.one (show Kd.M (Kd.int .u8) _ _ _ 192 [.int .u8 192] from rfl) (Reps.one (show Kd.M (Kd.int .u8) _ _ _ 192 [.int .u8 192] from rfl) (Reps.one (show Kd.M (Kd.int .u8) _ _ _ 0 [.int .u8 0] from rfl) (Reps.one (show Kd.M (Kd.int .u8) _ _ _ 0 [.int .u8 0] from rfl) (Reps.one (show Kd.M (Kd.int .u8) _ _ _ 0 [.int .u8 0] from rfl) (Reps.one (show Kd.M (Kd.int .u8) _ _ _ 0 [.int .u8 0] from rfl) (Reps.none _ _)))))))))))))))))); intro v336 w83 ho84 hb hg_ hnew_; clear hg_ hnew_; (first | rw [← Ny335.out] at ho84 | (simp only [Int.reduceToNat] at ho84; rw [← Ny335.out] at ho84)); have n0_ := Aside0.mk (Kd.R_elder' (by (with_reducible repeat (first | apply Kd.R_alloc | apply Kd.R_drewN | apply Kd.R_drew)); exact HO298.out) (Kd.R_base ho84) hb); have n1_ := Aside0.mk (Kd.R_elder' (by (with_reducible repeat (first | apply Kd.R_alloc | apply Kd.R_drewN | apply Kd.R_drew)); exact HO302.out) (Kd.R_base ho84) hb); have n2_ := Aside0.mk (Kd.R_elder' (by (with_reducible repeat (first | apply Kd.R_alloc | apply Kd.R_drewN | apply Kd.R_drew)); exact HO304.out) (Kd.R_base ho84) hb); have n3_ := Aside0.mk (Kd.R_elder' (by (with_reducible repeat (first | apply Kd.R_alloc | apply Kd.R_drewN | apply Kd.R_drew)); exact HO313.out) (Kd.R_base ho84) hb); have n4_ := Aside0.mk (Kd.R_elder' (by (with_reducible repeat (first | apply Kd.R_alloc | apply Kd.R_drewN | apply Kd.R_drew)); exact HO327.out) (Kd.R_base ho84) hb); have n5_ := Aside0.mk (Kd.R_elder' (by (with_reducible repeat (first | apply Kd.R_alloc | apply Kd.R_drewN | apply Kd.R_drew)); exact HO334.out) (Kd.R_base ho84) hb); have n6_ := Aside0.mk (Kd.R_lower (Kd.R_new' (Kd.R_new' (Kd.R_new' (Kd.R_new' (Kd.R_new' (Kd.R_new' ho84 (Kd.R_lt (by (with_reducible repeat (first | apply Kd.R_alloc | apply Kd.R_drewN | apply Kd.R_drew)); exact HO298.out))) (Kd.R_lt (by (with_reducible repeat (first | apply Kd.R_alloc | apply Kd.R_drewN | apply Kd.R_drew)); exact HO302.out))) (Kd.R_lt (by (with_reducible repeat (first | apply Kd.R_alloc | apply Kd.R_drewN | apply Kd.R_drew)); exact HO304.out))) (Kd.R_lt (by (with_reducible repeat (first | apply Kd.R_alloc | apply Kd.R_drewN | apply Kd.R_drew)); exact HO313.out))) (Kd.R_lt (by (with_reducible repeat (first | apply Kd.R_alloc | apply Kd.R_drewN | apply Kd.R_drew)); exact HO327.out))) (Kd.R_lt (by (with_reducible repeat (first | apply Kd.R_alloc | apply Kd.R_drewN | apply Kd.R_drew)); exact HO334.out))) (below_size (by repeat (first | (with_reducible first | exact HB.out | apply below_alloc | apply pw_below_drewN | apply below_drew1) | exact HB.out)))); have n7_ := Aside0.mk (below_step (by repeat (first | (with_reducible first | exact HB.out | apply below_alloc | apply pw_below_drewN | apply below_drew1) | exact HB.out)) hb); clear HO298; clear HO302; clear HO304; clear HO313; clear HO327; clear HO334; clear HB; have HO298 := n0_; have HO302 := n1_; have HO304 := n2_; have HO313 := n3_; have HO327 := n4_; have HO334 := n5_; have HO337 := n6_; have HB := n7_; clear n0_ n1_ n2_ n3_ n4_ n5_ n6_ n7_; clear hb ho84; obtain ⟨Ao85, co85, eo85⟩ := Kd.R_slice HO337.out; subst eo85) | ((with_reducible refine gate_callee (f := 34) rfl ?_); refine goesL_ (some 107) rfl rfl Tryd.func34 (by kernel_rfl) rfl #[.slice Ao82 t332.length co82, .slice Ao85 y335.length co85] rfl (by (try simp only [List.map_toArray, List.map_cons, List.map_nil]); first | done | rfl | (simp only [List.length_drop, List.length_take]; rfl)) ?_; (with_reducible refine (laws_xor.calls k _ _ t332 _ _ y335 t338 _ ?side1 ?side2 ?side3 ?side4 A53.out).mono ?_); (case side1 => repeat (first | exact (Kd.R_reads' HO334.out).2.2 | (with_reducible refine Kd.C_alloc ?_ _) | (with_reducible refine Kd.C_drewN ?_ _) | (with_reducible refine Kd.C_drew ?_))); (case side2 => exact (Kd.R_reads' HO334.out).2.1); (case side3 => repeat (first | exact (Kd.R_reads' HO337.out).2.2 | (with_reducible refine Kd.C_alloc ?_ _) | (with_reducible refine Kd.C_drewN ?_ _) | (with_reducible refine Kd.C_drew ?_))); (case side4 => exact (Kd.R_reads' HO337.out).2.1); rintro e w86 ⟨v339, rfl, ho0, hb⟩; refine ⟨_, rfl, ?_⟩; have n0_ := Aside0.mk (Kd.R_elder' (by (with_reducible repeat (first | apply Kd.R_alloc | apply Kd.R_drewN | apply Kd.R_drew)); exact HO298.out) (Kd.R_base ho0) hb); have n1_ := Aside0.mk (Kd.R_elder' (by (with_reducible repeat (first | apply Kd.R_alloc | apply Kd.R_drewN | apply Kd.R_drew)); exact HO302.out) (Kd.R_base ho0) hb); have n2_ := Aside0.mk (Kd.R_elder' (by (with_reducible repeat (first | apply Kd.R_alloc | apply Kd.R_drewN | apply Kd.R_drew)); exact HO304.out) (Kd.R_base ho0) hb); have n3_ := Aside0.mk (Kd.R_elder' (by (with_reducible repeat (first | apply Kd.R_alloc | apply Kd.R_drewN | apply Kd.R_drew)); exact HO313.out) (Kd.R_base ho0) hb); have n4_ := Aside0.mk (Kd.R_elder' (by (with_reducible repeat (first | apply Kd.R_alloc | apply Kd.R_drewN | apply Kd.R_drew)); exact HO327.out) (Kd.R_base ho0) hb); have n5_ := Aside0.mk (Kd.R_elder' (by (with_reducible repeat (first | apply Kd.R_alloc | apply Kd.R_drewN | apply Kd.R_drew)); exact HO334.out) (Kd.R_base ho0) hb); have n6_ := Aside0.mk (Kd.R_elder' (by (with_reducible repeat (first | apply Kd.R_alloc | apply Kd.R_drewN | apply Kd.R_drew)); exact HO337.out) (Kd.R_base ho0) hb); have n7_ := Aside0.mk (Kd.R_lower (Kd.R_new' (Kd.R_new' (Kd.R_new' (Kd.R_new' (Kd.R_new' (Kd.R_new' (Kd.R_new' ho0 (Kd.R_lt (by (with_reducible repeat (first | apply Kd.R_alloc | apply Kd.R_drewN | apply Kd.R_drew)); exact HO298.out))) (Kd.R_lt (by (with_reducible repeat (first | apply Kd.R_alloc | apply Kd.R_drewN | apply Kd.R_drew)); exact HO302.out))) (Kd.R_lt (by (with_reducible repeat (first | apply Kd.R_alloc | apply Kd.R_drewN | apply Kd.R_drew)); exact HO304.out))) (Kd.R_lt (by (with_reducible repeat (first | apply Kd.R_alloc | apply Kd.R_drewN | apply Kd.R_drew)); exact HO313.out))) (Kd.R_lt (by (with_reducible repeat (first | apply Kd.R_alloc | apply Kd.R_drewN | apply Kd.R_drew)); exact HO327.out))) (Kd.R_lt (by (with_reducible repeat (first | apply Kd.R_alloc | apply Kd.R_drewN | apply Kd.R_drew)); exact HO334.out))) (Kd.R_lt (by (with_reducible repeat (first | apply Kd.R_alloc | apply Kd.R_drewN | apply Kd.R_drew)); exact HO337.out))) (below_size (by repeat (first | (with_reducible first | exact HB.out | apply below_alloc | apply pw_below_drewN | apply below_drew1) | exact HB.out)))); have n8_ := Aside0.mk (below_step (by repeat (first | (with_reducible first | exact HB.out | apply below_alloc | apply pw_below_drewN | apply below_drew1) | exact HB.out)) hb); clear HO298; clear HO302; clear HO304; clear HO313; clear HO327; clear HO334; clear HO337; clear HB; have HO298 := n0_; have HO302 := n1_; have HO304 := n2_; have HO313 := n3_; have HO327 := n4_; have HO334 := n5_; have HO337 := n6_; have HO340 := n7_; have HB := n8_; clear n0_ n1_ n2_ n3_ n4_ n5_ n6_ n7_ n8_; (try clear hb); (try clear hb2); (try clear hk); (try clear hi); (try clear ho0)))
                              have n0_ := Aside0.mk (Kd.R_drew HO298.out)
                              have n1_ := Aside0.mk (Kd.R_drew HO302.out)
                              have n2_ := Aside0.mk (Kd.R_drew HO304.out)
                              have n3_ := Aside0.mk (Kd.R_drew HO313.out)
                              have n4_ := Aside0.mk (Kd.R_drew HO327.out)
                              have n5_ := Aside0.mk (Kd.R_drew HO334.out)
                              have n6_ := Aside0.mk (Kd.R_drew HO337.out)
                              have n7_ := Aside0.mk (Kd.R_drew HO340.out)
                              have n8_ := Aside0.mk (below_drew1 HB.out)
                              clear HO298
                              clear HO302
                              clear HO304
                              clear HO313
                              clear HO327
                              clear HO334
                              clear HO337
                              clear HO340
                              clear HB
                              have HO298 := n0_
                              have HO302 := n1_
                              have HO304 := n2_
                              have HO313 := n3_
                              have HO327 := n4_
                              have HO334 := n5_
                              have HO337 := n6_
                              have HO340 := n7_
                              have HB := n8_
                              clear n0_ n1_ n2_ n3_ n4_ n5_ n6_ n7_ n8_
                              obtain ⟨Ao89, co89, eo89⟩ := Kd.R_slice HO340.out
                              (first | subst eo89 | (injection eo89 with f1_ f2_ f3_; have f4_ := f1_.symm; have f5_ := f3_.symm; clear f1_ f2_ f3_; subst f4_; subst f5_))
                              have q88 : (8 : Int) ≤ ((t338.length : Int) : Int) := of_decide_eq_true (by first | (with_reducible assumption) | assumption)
                              obtain ⟨i088, hi088, _, hsz88, _⟩ := info_parts info5
                              have hroom88 : t338.length ≤ co89 := (Kd.R_reads' HO340.out).2.1
                              have hC88 : Kd.C (Kd.int .u8) _ Ao89 t338.length t338 := (Kd.R_reads' HO340.out).2.2
                              have hcut88 := cut_to (P := Tryd.prog) 22 5 .i64 Tryd.underlying22 hi088 Ao89 t338.length co89 8 (by omega) q88 hroom88
                              have hr88 := Kd.C_take (m := 8) hC88 (by omega)
                              have hy88 : y341.length = (8 : Int).toNat := (by rw [Ny341.out, List.length_take]; omega)
                              rw [← Ny341.out] at hr88
                              rw [← hy88] at hcut88
                              have HR344 := Aside0.mk hr88
                              have HC344 := Aside0.mk (show y341.length ≤ co89 from by omega)
                              clear hr88 hC88 hroom88 hi088 hsz88
                              have KY88 := Aside0.mk hy88
                              clear hy88
                              have KL88 := Aside0.mk (show 8 ≤ t338.length from by omega)
                              replace q88 := eq_true q88
                              have q90 : (2 : Int) ≤ ((t300.length : Int) : Int) := of_decide_eq_true (by first | (with_reducible assumption) | assumption)
                              obtain ⟨i090, hi090, _, hsz90, _⟩ := info_parts info5
                              have hroom90 : t300.length ≤ co67 := (Kd.R_reads' HO304.out).2.1
                              have hC90 : Kd.C (Kd.int .u8) _ (some ad308) t300.length t300 := (Kd.R_reads' HO304.out).2.2
                              have hcut90 := cut_from (P := Tryd.prog) 22 5 .i64 Tryd.underlying22 hi090 1 hsz90 (some ad308) t300.length co67 2 (by omega) q90
                              have hr90 := Kd.C_drop (m := (2 : Int).toNat) (c := co67) hC90 (by omega) hroom90
                              obtain ⟨A90, hA90⟩ : ∃ A1, A1 = (if co67 = (2 : Int).toNat then (some ad308) else ((some ad308) : Option Addr).map (·.add ((2 : Int).toNat * 1))) := ⟨_, rfl⟩
                              obtain ⟨c90, hc90⟩ : ∃ c1, c1 = co67 - (2 : Int).toNat := ⟨_, rfl⟩
                              have hy90 : y345.length = t300.length - (2 : Int).toNat := (by rw [Ny345.out, List.length_drop] <;> omega)
                              rw [show (t300).drop (2 : Int).toNat = y345 from Ny345.out.symm] at hr90
                              replace hr90 : Kd.C (Kd.int .u8) _ A90 y345.length y345 := (by rw [hA90]; exact hr90)
                              rw [← hy90, ← hA90, ← hc90] at hcut90
                              have HR348 := Aside0.mk hr90
                              have HC348 := Aside0.mk (show y345.length ≤ c90 from by rw [hy90, hc90]; exact Nat.sub_le_sub_right hroom90 _)
                              clear hr90 hC90 hroom90 hi090 hsz90 hc90
                              have KY90 := Aside0.mk hy90
                              have KA90 := Aside0.mk hA90
                              clear hy90 hA90
                              have KL90 := Aside0.mk (show 2 ≤ t300.length from by omega)
                              replace q90 := eq_true q90
                              have q91 : (8 : Int) ≤ ((t338.length : Int) : Int) := of_decide_eq_true (by first | (with_reducible assumption) | assumption)
                              obtain ⟨i091, hi091, _, hsz91, _⟩ := info_parts info5
                              have hroom91 : t338.length ≤ co89 := (Kd.R_reads' HO340.out).2.1
                              have hC91 : Kd.C (Kd.int .u8) _ Ao89 t338.length t338 := (Kd.R_reads' HO340.out).2.2
                              have hcut91 := cut_from (P := Tryd.prog) 22 5 .i64 Tryd.underlying22 hi091 1 hsz91 Ao89 t338.length co89 8 (by omega) q91
                              have hr91 := Kd.C_drop (m := (8 : Int).toNat) (c := co89) hC91 (by omega) hroom91
                              obtain ⟨A91, hA91⟩ : ∃ A1, A1 = (if co89 = (8 : Int).toNat then Ao89 else (Ao89 : Option Addr).map (·.add ((8 : Int).toNat * 1))) := ⟨_, rfl⟩
                              obtain ⟨c91, hc91⟩ : ∃ c1, c1 = co89 - (8 : Int).toNat := ⟨_, rfl⟩
                              have hy91 : y349.length = t338.length - (8 : Int).toNat := (by rw [Ny349.out, List.length_drop] <;> omega)
                              rw [show (t338).drop (8 : Int).toNat = y349 from Ny349.out.symm] at hr91
                              replace hr91 : Kd.C (Kd.int .u8) _ A91 y349.length y349 := (by rw [hA91]; exact hr91)
                              rw [← hy91, ← hA91, ← hc91] at hcut91
                              have HR352 := Aside0.mk hr91
                              have HC352 := Aside0.mk (show y349.length ≤ c91 from by rw [hy91, hc91]; exact Nat.sub_le_sub_right hroom91 _)
                              clear hr91 hC91 hroom91 hi091 hsz91 hc91
                              have KY91 := Aside0.mk hy91
                              have KA91 := Aside0.mk hA91
                              clear hy91 hA91
                              have KL91 := Aside0.mk (show 8 ≤ t338.length from by omega)
                              replace q91 := eq_true q91
                              refine start_ (n := 9) (S := fun w' => True) (ds := []) #[false, false, false, false, false, false, false, false, false] (by kernel_rfl) rfl rfl trivial (fun hHeld => ?_); refine with_tabW laws_FnDukpt.tab21 laws_FnDukpt.bits21 (fun HT_ HW_ => ?_)
                              generalize w86.drew = w87 at HO298 HO302 HO304 HO313 HO327 HO334 HO337 HO340 HB HR344 HR348 HR352 hHeld ⊢
                              refine pure_ (i := 0) (N := some 108) (v := ?_) (a' := ?_) #[true, false, false, false, false, false, false, false, false] rfl rfl (any_of HT_.out (by kernel_rfl)) (fun _ _ _ h => h) (Or.inl ⟨by rfl, ?_⟩) ?_ ?_
                              rotate_left
                              · intro w'
                                go_simp
                                with_reducible rfl
                              rotate_left
                              · simp only [Act.put, List.setIfInBounds_toArray, List.set_cons_zero, List.set_cons_succ, i64_w, i32_w]
                                rfl
                              refine pure_ (i := 1) (N := some 109) (v := ?_) (a' := ?_) #[true, true, false, false, false, false, false, false, false] rfl rfl (any_of HT_.out (by kernel_rfl)) (fun _ _ _ h => h) (Or.inl ⟨by rfl, ?_⟩) ?_ ?_
                              rotate_left
                              · intro w'
                                go_simp
                                with_reducible rfl
                              rotate_left
                              · simp only [Act.put, List.setIfInBounds_toArray, List.set_cons_zero, List.set_cons_succ, i64_w, i32_w]
                                rfl
                              refine pure_ (i := 2) (N := some 110) (v := ?_) (a' := ?_) #[true, true, true, false, false, false, false, false, false] rfl rfl (any_of HT_.out (by kernel_rfl)) (fun _ _ _ h => h) (Or.inl ⟨by rfl, ?_⟩) ?_ ?_
                              rotate_left
                              · intro w'
                                go_simp
                                with_reducible rfl
                              rotate_left
                              · simp only [Act.put, List.setIfInBounds_toArray, List.set_cons_zero, List.set_cons_succ, i64_w, i32_w]
                                rfl
                              refine pure_ (i := 3) (N := some 111) (v := ?_) (a' := ?_) #[true, true, true, true, false, false, false, false, false] rfl rfl (any_of HT_.out (by kernel_rfl)) (fun _ _ _ h => h) (Or.inl ⟨by rfl, ?_⟩) ?_ ?_
                              rotate_left
                              · intro w'
                                go_simp
                                with_reducible rfl
                              rotate_left
                              · simp only [Act.put, List.setIfInBounds_toArray, List.set_cons_zero, List.set_cons_succ, i64_w, i32_w]
                                rfl
                              refine pure_ (i := 4) (N := some 112) (v := ?_) (a' := ?_) #[true, true, true, true, true, false, false, false, false] rfl rfl (any_of HT_.out (by kernel_rfl)) (fun _ _ _ h => h) (Or.inl ⟨by rfl, ?_⟩) ?_ ?_
                              rotate_left
                              · intro w'
                                go_simp
                                with_reducible rfl
                              rotate_left
                              · simp only [Act.put, List.setIfInBounds_toArray, List.set_cons_zero, List.set_cons_succ, i64_w, i32_w]
                                rfl
                              refine pure_ (i := 5) (N := some 113) (v := ?_) (a' := ?_) #[true, true, true, true, true, true, false, false, false] rfl rfl (any_of HT_.out (by kernel_rfl)) (fun _ _ _ h => h) (Or.inl ⟨by rfl, ?_⟩) ?_ ?_
                              rotate_left
                              · intro w'
                                go_simp
                                with_reducible rfl
                              rotate_left
                              · simp only [Act.put, List.setIfInBounds_toArray, List.set_cons_zero, List.set_cons_succ, i64_w, i32_w]
                                rfl
                              refine one_ (i := 6) (N := some 114) #[true, true, true, true, true, true, true, false, false] rfl rfl (one_of HT_.out (by kernel_rfl)) (by decide) (fun K hK => ?_)
                              refine goes_ Tryd.func34 (by kernel_rfl) rfl #[.slice A90 y345.length c90, .slice A91 y349.length c91] (by rfl) rfl rfl (by (try simp only [List.map_toArray, List.map_cons, List.map_nil]); first | done | rfl | (simp only [List.length_drop, List.length_take]; rfl)) ?_
                              with_reducible refine (laws_xor.calls k _ _ y345 _ _ y349 t353 _ ?side1 ?side2 ?side3 ?side4 A57.out).mono ?_
                              (case side1 => repeat (first | exact (by repeat (first | (with_reducible exact HR348.out) | (with_reducible refine Kd.C_alloc ?_ _) | (with_reducible refine Kd.C_drewN ?_ _) | (with_reducible refine Kd.C_drew ?_) | exact HR348.out)) | (with_reducible refine Kd.C_alloc ?_ _) | (with_reducible refine Kd.C_drewN ?_ _) | (with_reducible refine Kd.C_drew ?_)))
                              (case side2 => exact HC348.out)
                              (case side3 => repeat (first | exact (by repeat (first | (with_reducible exact HR352.out) | (with_reducible refine Kd.C_alloc ?_ _) | (with_reducible refine Kd.C_drewN ?_ _) | (with_reducible refine Kd.C_drew ?_) | exact HR352.out)) | (with_reducible refine Kd.C_alloc ?_ _) | (with_reducible refine Kd.C_drewN ?_ _) | (with_reducible refine Kd.C_drew ?_)))
                              (case side4 => exact HC352.out)
                              rintro e w92 ⟨v354, rfl, ho0, hb⟩
                              refine ⟨_, rfl, ?_⟩
                              have n0_ := Aside0.mk (Kd.R_elder' (by (with_reducible repeat (first | apply Kd.R_alloc | apply Kd.R_drewN | apply Kd.R_drew)); exact HO298.out) (Kd.R_base ho0) hb)
                              have n1_ := Aside0.mk (Kd.R_elder' (by (with_reducible repeat (first | apply Kd.R_alloc | apply Kd.R_drewN | apply Kd.R_drew)); exact HO302.out) (Kd.R_base ho0) hb)
                              have n2_ := Aside0.mk (Kd.R_elder' (by (with_reducible repeat (first | apply Kd.R_alloc | apply Kd.R_drewN | apply Kd.R_drew)); exact HO304.out) (Kd.R_base ho0) hb)
                              have n3_ := Aside0.mk (Kd.R_elder' (by (with_reducible repeat (first | apply Kd.R_alloc | apply Kd.R_drewN | apply Kd.R_drew)); exact HO313.out) (Kd.R_base ho0) hb)
                              have n4_ := Aside0.mk (Kd.R_elder' (by (with_reducible repeat (first | apply Kd.R_alloc | apply Kd.R_drewN | apply Kd.R_drew)); exact HO327.out) (Kd.R_base ho0) hb)
                              have n5_ := Aside0.mk (Kd.R_elder' (by (with_reducible repeat (first | apply Kd.R_alloc | apply Kd.R_drewN | apply Kd.R_drew)); exact HO334.out) (Kd.R_base ho0) hb)
                              have n6_ := Aside0.mk (Kd.R_elder' (by (with_reducible repeat (first | apply Kd.R_alloc | apply Kd.R_drewN | apply Kd.R_drew)); exact HO337.out) (Kd.R_base ho0) hb)
                              have n7_ := Aside0.mk (Kd.R_elder' (by (with_reducible repeat (first | apply Kd.R_alloc | apply Kd.R_drewN | apply Kd.R_drew)); exact HO340.out) (Kd.R_base ho0) hb)
                              have n8_ := Aside0.mk (Kd.R_lower (Kd.R_new' (Kd.R_new' (Kd.R_new' (Kd.R_new' (Kd.R_new' (Kd.R_new' (Kd.R_new' (Kd.R_new' ho0 (Kd.R_lt (by (with_reducible repeat (first | apply Kd.R_alloc | apply Kd.R_drewN | apply Kd.R_drew)); exact HO298.out))) (Kd.R_lt (by (with_reducible repeat (first | apply Kd.R_alloc | apply Kd.R_drewN | apply Kd.R_drew)); exact HO302.out))) (Kd.R_lt (by (with_reducible repeat (first | apply Kd.R_alloc | apply Kd.R_drewN | apply Kd.R_drew)); exact HO304.out))) (Kd.R_lt (by (with_reducible repeat (first | apply Kd.R_alloc | apply Kd.R_drewN | apply Kd.R_drew)); exact HO313.out))) (Kd.R_lt (by (with_reducible repeat (first | apply Kd.R_alloc | apply Kd.R_drewN | apply Kd.R_drew)); exact HO327.out))) (Kd.R_lt (by (with_reducible repeat (first | apply Kd.R_alloc | apply Kd.R_drewN | apply Kd.R_drew)); exact HO334.out))) (Kd.R_lt (by (with_reducible repeat (first | apply Kd.R_alloc | apply Kd.R_drewN | apply Kd.R_drew)); exact HO337.out))) (Kd.R_lt (by (with_reducible repeat (first | apply Kd.R_alloc | apply Kd.R_drewN | apply Kd.R_drew)); exact HO340.out))) (below_size (by repeat (first | (with_reducible first | exact HB.out | apply below_alloc | apply pw_below_drewN | apply below_drew1) | exact HB.out))))
                              have n9_ := Aside0.mk (Kd.C_below (by repeat (first | (with_reducible exact HR344.out) | (with_reducible refine Kd.C_alloc ?_ _) | (with_reducible refine Kd.C_drewN ?_ _) | (with_reducible refine Kd.C_drew ?_) | exact HR344.out)) hb)
                              have n10_ := Aside0.mk (Kd.C_below (by repeat (first | (with_reducible exact HR348.out) | (with_reducible refine Kd.C_alloc ?_ _) | (with_reducible refine Kd.C_drewN ?_ _) | (with_reducible refine Kd.C_drew ?_) | exact HR348.out)) hb)
                              have n11_ := Aside0.mk (Kd.C_below (by repeat (first | (with_reducible exact HR352.out) | (with_reducible refine Kd.C_alloc ?_ _) | (with_reducible refine Kd.C_drewN ?_ _) | (with_reducible refine Kd.C_drew ?_) | exact HR352.out)) hb)
                              have n12_ := Aside0.mk (below_step (by repeat (first | (with_reducible first | exact HB.out | apply below_alloc | apply pw_below_drewN | apply below_drew1) | exact HB.out)) hb)
                              clear HO298
                              clear HO302
                              clear HO304
                              clear HO313
                              clear HO327
                              clear HO334
                              clear HO337
                              clear HO340
                              clear HR344
                              clear HR348
                              clear HR352
                              clear HB
                              have HO298 := n0_
                              have HO302 := n1_
                              have HO304 := n2_
                              have HO313 := n3_
                              have HO327 := n4_
                              have HO334 := n5_
                              have HO337 := n6_
                              have HO340 := n7_
                              have HO355 := n8_
                              have HR344 := n9_
                              have HR348 := n10_
                              have HR352 := n11_
                              have HB := n12_
                              clear n0_ n1_ n2_ n3_ n4_ n5_ n6_ n7_ n8_ n9_ n10_ n11_ n12_
                              (try clear hb)
                              (try clear hb2)
                              (try clear hk)
                              (try clear hi)
                              (try clear ho0)
                              obtain ⟨Ao93, co93, eo93⟩ := Kd.R_slice HO355.out
                              (first | subst eo93 | (injection eo93 with f1_ f2_ f3_; have f4_ := f1_.symm; have f5_ := f3_.symm; clear f1_ f2_ f3_; subst f4_; subst f5_))
                              refine hK.out _ _ trivial (fun hHeld => ?_)
                              clear hK K
                              refine norm_ (a' := ?_) ?_ ?_
                              rotate_left
                              · show Act.put _ (some 114) _ = _
                                simp only [Act.put, List.setIfInBounds_toArray, List.set_cons_zero, List.set_cons_succ, i64_w, i32_w]
                                rfl
                              refine one_ (i := 7) (N := some 115) #[true, true, true, true, true, true, true, true, false] rfl rfl (one_of HT_.out (by kernel_rfl)) (by decide) (fun K hK => ?_)
                              refine goes_ Tryd.func15 (by kernel_rfl) rfl #[.slice Ao89 y341.length co89, .slice Ao93 t353.length co93, .bool false] (by rfl) rfl rfl (by (try simp only [List.map_toArray, List.map_cons, List.map_nil]); first | done | rfl | (simp only [List.length_drop, List.length_take]; rfl)) ?_
                              with_reducible refine (impl_Des.calls _ _ y341 _ _ t353 false t356 _ ?side1 ?side2 ?side3 ?side4 A58.out ?sidetab).mono ?_
                              (case sidetab => exact HTab_.out.below (by repeat (first | (with_reducible first | exact HB.out | apply below_alloc | apply pw_below_drewN | apply below_drew1) | exact HB.out)))
                              (case side1 => repeat (first | exact (by repeat (first | (with_reducible exact HR344.out) | (with_reducible refine Kd.C_alloc ?_ _) | (with_reducible refine Kd.C_drewN ?_ _) | (with_reducible refine Kd.C_drew ?_) | exact HR344.out)) | (with_reducible refine Kd.C_alloc ?_ _) | (with_reducible refine Kd.C_drewN ?_ _) | (with_reducible refine Kd.C_drew ?_)))
                              (case side2 => exact HC344.out)
                              (case side3 => repeat (first | exact (Kd.R_reads' HO355.out).2.2 | (with_reducible refine Kd.C_alloc ?_ _) | (with_reducible refine Kd.C_drewN ?_ _) | (with_reducible refine Kd.C_drew ?_)))
                              (case side4 => exact (Kd.R_reads' HO355.out).2.1)
                              rintro e w94 ⟨v357, rfl, ho0, hb⟩
                              refine ⟨_, rfl, ?_⟩
                              have n0_ := Aside0.mk (Kd.R_elder' (by (with_reducible repeat (first | apply Kd.R_alloc | apply Kd.R_drewN | apply Kd.R_drew)); exact HO298.out) (Kd.R_base ho0) hb)
                              have n1_ := Aside0.mk (Kd.R_elder' (by (with_reducible repeat (first | apply Kd.R_alloc | apply Kd.R_drewN | apply Kd.R_drew)); exact HO302.out) (Kd.R_base ho0) hb)
                              have n2_ := Aside0.mk (Kd.R_elder' (by (with_reducible repeat (first | apply Kd.R_alloc | apply Kd.R_drewN | apply Kd.R_drew)); exact HO304.out) (Kd.R_base ho0) hb)
                              have n3_ := Aside0.mk (Kd.R_elder' (by (with_reducible repeat (first | apply Kd.R_alloc | apply Kd.R_drewN | apply Kd.R_drew)); exact HO313.out) (Kd.R_base ho0) hb)
                              have n4_ := Aside0.mk (Kd.R_elder' (by (with_reducible repeat (first | apply Kd.R_alloc | apply Kd.R_drewN | apply Kd.R_drew)); exact HO327.out) (Kd.R_base ho0) hb)
                              have n5_ := Aside0.mk (Kd.R_elder' (by (with_reducible repeat (first | apply Kd.R_alloc | apply Kd.R_drewN | apply Kd.R_drew)); exact HO334.out) (Kd.R_base ho0) hb)
                              have n6_ := Aside0.mk (Kd.R_elder' (by (with_reducible repeat (first | apply Kd.R_alloc | apply Kd.R_drewN | apply Kd.R_drew)); exact HO337.out) (Kd.R_base ho0) hb)
                              have n7_ := Aside0.mk (Kd.R_elder' (by (with_reducible repeat (first | apply Kd.R_alloc | apply Kd.R_drewN | apply Kd.R_drew)); exact HO340.out) (Kd.R_base ho0) hb)
                              have n8_ := Aside0.mk (Kd.R_elder' (by (with_reducible repeat (first | apply Kd.R_alloc | apply Kd.R_drewN | apply Kd.R_drew)); exact HO355.out) (Kd.R_base ho0) hb)
                              have n9_ := Aside0.mk (Kd.R_lower (Kd.R_new' (Kd.R_new' (Kd.R_new' (Kd.R_new' (Kd.R_new' (Kd.R_new' (Kd.R_new' (Kd.R_new' (Kd.R_new' ho0 (Kd.R_lt (by (with_reducible repeat (first | apply Kd.R_alloc | apply Kd.R_drewN | apply Kd.R_drew)); exact HO298.out))) (Kd.R_lt (by (with_reducible repeat (first | apply Kd.R_alloc | apply Kd.R_drewN | apply Kd.R_drew)); exact HO302.out))) (Kd.R_lt (by (with_reducible repeat (first | apply Kd.R_alloc | apply Kd.R_drewN | apply Kd.R_drew)); exact HO304.out))) (Kd.R_lt (by (with_reducible repeat (first | apply Kd.R_alloc | apply Kd.R_drewN | apply Kd.R_drew)); exact HO313.out))) (Kd.R_lt (by (with_reducible repeat (first | apply Kd.R_alloc | apply Kd.R_drewN | apply Kd.R_drew)); exact HO327.out))) (Kd.R_lt (by (with_reducible repeat (first | apply Kd.R_alloc | apply Kd.R_drewN | apply Kd.R_drew)); exact HO334.out))) (Kd.R_lt (by (with_reducible repeat (first | apply Kd.R_alloc | apply Kd.R_drewN | apply Kd.R_drew)); exact HO337.out))) (Kd.R_lt (by (with_reducible repeat (first | apply Kd.R_alloc | apply Kd.R_drewN | apply Kd.R_drew)); exact HO340.out))) (Kd.R_lt (by (with_reducible repeat (first | apply Kd.R_alloc | apply Kd.R_drewN | apply Kd.R_drew)); exact HO355.out))) (below_size (by repeat (first | (with_reducible first | exact HB.out | apply below_alloc | apply pw_below_drewN | apply below_drew1) | exact HB.out))))
                              have n10_ := Aside0.mk (Kd.C_below (by repeat (first | (with_reducible exact HR344.out) | (with_reducible refine Kd.C_alloc ?_ _) | (with_reducible refine Kd.C_drewN ?_ _) | (with_reducible refine Kd.C_drew ?_) | exact HR344.out)) hb)
                              have n11_ := Aside0.mk (Kd.C_below (by repeat (first | (with_reducible exact HR348.out) | (with_reducible refine Kd.C_alloc ?_ _) | (with_reducible refine Kd.C_drewN ?_ _) | (with_reducible refine Kd.C_drew ?_) | exact HR348.out)) hb)
                              have n12_ := Aside0.mk (Kd.C_below (by repeat (first | (with_reducible exact HR352.out) | (with_reducible refine Kd.C_alloc ?_ _) | (with_reducible refine Kd.C_drewN ?_ _) | (with_reducible refine Kd.C_drew ?_) | exact HR352.out)) hb)
                              have n13_ := Aside0.mk (below_step (by repeat (first | (with_reducible first | exact HB.out | apply below_alloc | apply pw_below_drewN | apply below_drew1) | exact HB.out)) hb)
                              clear HO298
                              clear HO302
                              clear HO304
                              clear HO313
                              clear HO327
                              clear HO334
                              clear HO337
                              clear HO340
                              clear HO355
                              clear HR344
                              clear HR348
                              clear HR352
                              clear HB
                              have HO298 := n0_
                              have HO302 := n1_
                              have HO304 := n2_
                              have HO313 := n3_
                              have HO327 := n4_
                              have HO334 := n5_
                              have HO337 := n6_
                              have HO340 := n7_
                              have HO355 := n8_
                              have HO358 := n9_
                              have HR344 := n10_
                              have HR348 := n11_
                              have HR352 := n12_
                              have HB := n13_
                              clear n0_ n1_ n2_ n3_ n4_ n5_ n6_ n7_ n8_ n9_ n10_ n11_ n12_ n13_
                              (try clear hb)
                              (try clear hb2)
                              (try clear hk)
                              (try clear hi)
                              (try clear ho0)
                              refine hK.out _ _ trivial (fun hHeld => ?_)
                              clear hK K
                              refine norm_ (a' := ?_) ?_ ?_
                              rotate_left
                              · show Act.put _ (some 115) _ = _
                                simp only [Act.put, List.setIfInBounds_toArray, List.set_cons_zero, List.set_cons_succ, i64_w, i32_w]
                                rfl
                              refine pure_ (i := 8) (N := some 13) (v := ?_) (a' := ?_) #[true, true, true, true, true, true, true, true, true] rfl rfl (any_of HT_.out (by kernel_rfl)) (fun _ _ _ h => h) (Or.inl ⟨by rfl, ?_⟩) ?_ ?_
                              rotate_left
                              · intro w'
                                go_simp
                                with_reducible rfl
                              rotate_left
                              · simp only [Act.put, List.setIfInBounds_toArray, List.set_cons_zero, List.set_cons_succ, i64_w, i32_w]
                                rfl
                              refine done_ (done_of HT_.out (by kernel_rfl)) ?_
                              try go_wp2
                              have n0_ := Aside0.mk (Kd.R_drew HO298.out)
                              have n1_ := Aside0.mk (Kd.R_drew HO302.out)
                              have n2_ := Aside0.mk (Kd.R_drew HO304.out)
                              have n3_ := Aside0.mk (Kd.R_drew HO313.out)
                              have n4_ := Aside0.mk (Kd.R_drew HO327.out)
                              have n5_ := Aside0.mk (Kd.R_drew HO334.out)
                              have n6_ := Aside0.mk (Kd.R_drew HO337.out)
                              have n7_ := Aside0.mk (Kd.R_drew HO340.out)
                              have n8_ := Aside0.mk (Kd.R_drew HO355.out)
                              have n9_ := Aside0.mk (Kd.R_drew HO358.out)
                              have n10_ := Aside0.mk (Kd.C_drew HR344.out)
                              have n11_ := Aside0.mk (Kd.C_drew HR348.out)
                              have n12_ := Aside0.mk (Kd.C_drew HR352.out)
                              have n13_ := Aside0.mk (below_drew1 HB.out)
                              clear HO298
                              clear HO302
                              clear HO304
                              clear HO313
                              clear HO327
                              clear HO334
                              clear HO337
                              clear HO340
                              clear HO355
                              clear HO358
                              clear HR344
                              clear HR348
                              clear HR352
                              clear HB
                              have HO298 := n0_
                              have HO302 := n1_
                              have HO304 := n2_
                              have HO313 := n3_
                              have HO327 := n4_
                              have HO334 := n5_
                              have HO337 := n6_
                              have HO340 := n7_
                              have HO355 := n8_
                              have HO358 := n9_
                              have HR344 := n10_
                              have HR348 := n11_
                              have HR352 := n12_
                              have HB := n13_
                              clear n0_ n1_ n2_ n3_ n4_ n5_ n6_ n7_ n8_ n9_ n10_ n11_ n12_ n13_
                              have q96 : (8 : Int) ≤ ((t332.length : Int) : Int) := of_decide_eq_true (by first | (with_reducible assumption) | assumption)
                              obtain ⟨i096, hi096, _, hsz96, _⟩ := info_parts info5
                              have hroom96 : t332.length ≤ co82 := (Kd.R_reads' HO334.out).2.1
                              have hC96 : Kd.C (Kd.int .u8) _ Ao82 t332.length t332 := (Kd.R_reads' HO334.out).2.2
                              have hcut96 := cut_to (P := Tryd.prog) 22 5 .i64 Tryd.underlying22 hi096 Ao82 t332.length co82 8 (by omega) q96 hroom96
                              have hr96 := Kd.C_take (m := 8) hC96 (by omega)
                              have hy96 : y359.length = (8 : Int).toNat := (by rw [Ny359.out, List.length_take]; omega)
                              rw [← Ny359.out] at hr96
                              rw [← hy96] at hcut96
                              have HR362 := Aside0.mk hr96
                              have HC362 := Aside0.mk (show y359.length ≤ co82 from by omega)
                              clear hr96 hC96 hroom96 hi096 hsz96
                              have KY96 := Aside0.mk hy96
                              clear hy96
                              have KL96 := Aside0.mk (show 8 ≤ t332.length from by omega)
                              replace q96 := eq_true q96
                              have q97 : (2 : Int) ≤ ((t300.length : Int) : Int) := of_decide_eq_true (by first | (with_reducible assumption) | assumption)
                              obtain ⟨i097, hi097, _, hsz97, _⟩ := info_parts info5
                              have hroom97 : t300.length ≤ co67 := (Kd.R_reads' HO304.out).2.1
                              have hC97 : Kd.C (Kd.int .u8) _ (some ad308) t300.length t300 := (Kd.R_reads' HO304.out).2.2
                              have hcut97 := cut_from (P := Tryd.prog) 22 5 .i64 Tryd.underlying22 hi097 1 hsz97 (some ad308) t300.length co67 2 (by omega) q97
                              have hr97 := Kd.C_drop (m := (2 : Int).toNat) (c := co67) hC97 (by omega) hroom97
                              try clear hcut90
                              obtain ⟨A97, hA97⟩ : ∃ A1, A1 = (if co67 = (2 : Int).toNat then (some ad308) else ((some ad308) : Option Addr).map (·.add ((2 : Int).toNat * 1))) := ⟨_, rfl⟩
                              obtain ⟨c97, hc97⟩ : ∃ c1, c1 = co67 - (2 : Int).toNat := ⟨_, rfl⟩
                              have hy97 : y363.length = t300.length - (2 : Int).toNat := (by rw [Ny363.out, List.length_drop] <;> omega)
                              rw [show (t300).drop (2 : Int).toNat = y363 from Ny363.out.symm] at hr97
                              replace hr97 : Kd.C (Kd.int .u8) _ A97 y363.length y363 := (by rw [hA97]; exact hr97)
                              rw [← hy97, ← hA97, ← hc97] at hcut97
                              have HR366 := Aside0.mk hr97
                              have HC366 := Aside0.mk (show y363.length ≤ c97 from by rw [hy97, hc97]; exact Nat.sub_le_sub_right hroom97 _)
                              clear hr97 hC97 hroom97 hi097 hsz97 hc97
                              have KY97 := Aside0.mk hy97
                              have KA97 := Aside0.mk hA97
                              clear hy97 hA97
                              have KL97 := Aside0.mk (show 2 ≤ t300.length from by omega)
                              replace q97 := eq_true q97
                              have q98 : (8 : Int) ≤ ((t332.length : Int) : Int) := of_decide_eq_true (by first | (with_reducible assumption) | assumption)
                              obtain ⟨i098, hi098, _, hsz98, _⟩ := info_parts info5
                              have hroom98 : t332.length ≤ co82 := (Kd.R_reads' HO334.out).2.1
                              have hC98 : Kd.C (Kd.int .u8) _ Ao82 t332.length t332 := (Kd.R_reads' HO334.out).2.2
                              have hcut98 := cut_from (P := Tryd.prog) 22 5 .i64 Tryd.underlying22 hi098 1 hsz98 Ao82 t332.length co82 8 (by omega) q98
                              have hr98 := Kd.C_drop (m := (8 : Int).toNat) (c := co82) hC98 (by omega) hroom98
                              obtain ⟨A98, hA98⟩ : ∃ A1, A1 = (if co82 = (8 : Int).toNat then Ao82 else (Ao82 : Option Addr).map (·.add ((8 : Int).toNat * 1))) := ⟨_, rfl⟩
                              obtain ⟨c98, hc98⟩ : ∃ c1, c1 = co82 - (8 : Int).toNat := ⟨_, rfl⟩
                              have hy98 : y367.length = t332.length - (8 : Int).toNat := (by rw [Ny367.out, List.length_drop] <;> omega)
                              rw [show (t332).drop (8 : Int).toNat = y367 from Ny367.out.symm] at hr98
                              replace hr98 : Kd.C (Kd.int .u8) _ A98 y367.length y367 := (by rw [hA98]; exact hr98)
                              rw [← hy98, ← hA98, ← hc98] at hcut98
                              have HR370 := Aside0.mk hr98
                              have HC370 := Aside0.mk (show y367.length ≤ c98 from by rw [hy98, hc98]; exact Nat.sub_le_sub_right hroom98 _)
                              clear hr98 hC98 hroom98 hi098 hsz98 hc98
                              have KY98 := Aside0.mk hy98
                              have KA98 := Aside0.mk hA98
                              clear hy98 hA98
                              have KL98 := Aside0.mk (show 8 ≤ t332.length from by omega)
                              replace q98 := eq_true q98
                              refine start_ (n := 9) (S := fun w' => True) (ds := []) #[false, false, false, false, false, false, false, false, false] (by kernel_rfl) rfl rfl trivial (fun hHeld => ?_); refine with_tabW laws_FnDukpt.tab22 laws_FnDukpt.bits22 (fun HT_ HW_ => ?_)
                              generalize w94.drew = w95 at HO298 HO302 HO304 HO313 HO327 HO334 HO337 HO340 HO355 HO358 HR344 HR348 HR352 HB HR362 HR366 HR370 hHeld ⊢
                              refine pure_ (i := 0) (N := some 116) (v := ?_) (a' := ?_) #[true, false, false, false, false, false, false, false, false] rfl rfl (any_of HT_.out (by kernel_rfl)) (fun _ _ _ h => h) (Or.inl ⟨by rfl, ?_⟩) ?_ ?_
                              rotate_left
                              · intro w'
                                go_simp
                                with_reducible rfl
                              rotate_left
                              · simp only [Act.put, List.setIfInBounds_toArray, List.set_cons_zero, List.set_cons_succ, i64_w, i32_w]
                                rfl
                              refine pure_ (i := 1) (N := some 117) (v := ?_) (a' := ?_) #[true, true, false, false, false, false, false, false, false] rfl rfl (any_of HT_.out (by kernel_rfl)) (fun _ _ _ h => h) (Or.inl ⟨by rfl, ?_⟩) ?_ ?_
                              rotate_left
                              · intro w'
                                go_simp
                                with_reducible rfl
                              rotate_left
                              · simp only [Act.put, List.setIfInBounds_toArray, List.set_cons_zero, List.set_cons_succ, i64_w, i32_w]
                                rfl
                              refine pure_ (i := 2) (N := some 118) (v := ?_) (a' := ?_) #[true, true, true, false, false, false, false, false, false] rfl rfl (any_of HT_.out (by kernel_rfl)) (fun _ _ _ h => h) (Or.inl ⟨by rfl, ?_⟩) ?_ ?_
                              rotate_left
                              · intro w'
                                go_simp
                                with_reducible rfl
                              rotate_left
                              · simp only [Act.put, List.setIfInBounds_toArray, List.set_cons_zero, List.set_cons_succ, i64_w, i32_w]
                                rfl
                              refine pure_ (i := 3) (N := some 119) (v := ?_) (a' := ?_) #[true, true, true, true, false, false, false, false, false] rfl rfl (any_of HT_.out (by kernel_rfl)) (fun _ _ _ h => h) (Or.inl ⟨by rfl, ?_⟩) ?_ ?_
                              rotate_left
                              · intro w'
                                go_simp
                                with_reducible rfl
                              rotate_left
                              · simp only [Act.put, List.setIfInBounds_toArray, List.set_cons_zero, List.set_cons_succ, i64_w, i32_w]
                                rfl
                              refine pure_ (i := 4) (N := some 120) (v := ?_) (a' := ?_) #[true, true, true, true, true, false, false, false, false] rfl rfl (any_of HT_.out (by kernel_rfl)) (fun _ _ _ h => h) (Or.inl ⟨by rfl, ?_⟩) ?_ ?_
                              rotate_left
                              · intro w'
                                go_simp
                                with_reducible rfl
                              rotate_left
                              · simp only [Act.put, List.setIfInBounds_toArray, List.set_cons_zero, List.set_cons_succ, i64_w, i32_w]
                                rfl
                              refine pure_ (i := 5) (N := some 121) (v := ?_) (a' := ?_) #[true, true, true, true, true, true, false, false, false] rfl rfl (any_of HT_.out (by kernel_rfl)) (fun _ _ _ h => h) (Or.inl ⟨by rfl, ?_⟩) ?_ ?_
                              rotate_left
                              · intro w'
                                go_simp
                                with_reducible rfl
                              rotate_left
                              · simp only [Act.put, List.setIfInBounds_toArray, List.set_cons_zero, List.set_cons_succ, i64_w, i32_w]
                                rfl
                              refine one_ (i := 6) (N := some 122) #[true, true, true, true, true, true, true, false, false] rfl rfl (one_of HT_.out (by kernel_rfl)) (by decide) (fun K hK => ?_)
                              refine goes_ Tryd.func34 (by kernel_rfl) rfl #[.slice A97 y363.length c97, .slice A98 y367.length c98] (by rfl) rfl rfl (by (try simp only [List.map_toArray, List.map_cons, List.map_nil]); first | done | rfl | (simp only [List.length_drop, List.length_take]; rfl)) ?_
                              with_reducible refine (laws_xor.calls k _ _ y363 _ _ y367 t371 _ ?side1 ?side2 ?side3 ?side4 A62.out).mono ?_
                              (case side1 => repeat (first | exact (by repeat (first | (with_reducible exact HR366.out) | (with_reducible refine Kd.C_alloc ?_ _) | (with_reducible refine Kd.C_drewN ?_ _) | (with_reducible refine Kd.C_drew ?_) | exact HR366.out)) | (with_reducible refine Kd.C_alloc ?_ _) | (with_reducible refine Kd.C_drewN ?_ _) | (with_reducible refine Kd.C_drew ?_)))
                              (case side2 => exact HC366.out)
                              (case side3 => repeat (first | exact (by repeat (first | (with_reducible exact HR370.out) | (with_reducible refine Kd.C_alloc ?_ _) | (with_reducible refine Kd.C_drewN ?_ _) | (with_reducible refine Kd.C_drew ?_) | exact HR370.out)) | (with_reducible refine Kd.C_alloc ?_ _) | (with_reducible refine Kd.C_drewN ?_ _) | (with_reducible refine Kd.C_drew ?_)))
                              (case side4 => exact HC370.out)
                              rintro e w99 ⟨v372, rfl, ho0, hb⟩
                              refine ⟨_, rfl, ?_⟩
                              have n0_ := Aside0.mk (Kd.R_elder' (by (with_reducible repeat (first | apply Kd.R_alloc | apply Kd.R_drewN | apply Kd.R_drew)); exact HO298.out) (Kd.R_base ho0) hb)
                              have n1_ := Aside0.mk (Kd.R_elder' (by (with_reducible repeat (first | apply Kd.R_alloc | apply Kd.R_drewN | apply Kd.R_drew)); exact HO302.out) (Kd.R_base ho0) hb)
                              have n2_ := Aside0.mk (Kd.R_elder' (by (with_reducible repeat (first | apply Kd.R_alloc | apply Kd.R_drewN | apply Kd.R_drew)); exact HO304.out) (Kd.R_base ho0) hb)
                              have n3_ := Aside0.mk (Kd.R_elder' (by (with_reducible repeat (first | apply Kd.R_alloc | apply Kd.R_drewN | apply Kd.R_drew)); exact HO313.out) (Kd.R_base ho0) hb)
                              have n4_ := Aside0.mk (Kd.R_elder' (by (with_reducible repeat (first | apply Kd.R_alloc | apply Kd.R_drewN | apply Kd.R_drew)); exact HO327.out) (Kd.R_base ho0) hb)
                              have n5_ := Aside0.mk (Kd.R_elder' (by (with_reducible repeat (first | apply Kd.R_alloc | apply Kd.R_drewN | apply Kd.R_drew)); exact HO334.out) (Kd.R_base ho0) hb)
                              have n6_ := Aside0.mk (Kd.R_elder' (by (with_reducible repeat (first | apply Kd.R_alloc | apply Kd.R_drewN | apply Kd.R_drew)); exact HO337.out) (Kd.R_base ho0) hb)
                              have n7_ := Aside0.mk (Kd.R_elder' (by (with_reducible repeat (first | apply Kd.R_alloc | apply Kd.R_drewN | apply Kd.R_drew)); exact HO340.out) (Kd.R_base ho0) hb)
                              have n8_ := Aside0.mk (Kd.R_elder' (by (with_reducible repeat (first | apply Kd.R_alloc | apply Kd.R_drewN | apply Kd.R_drew)); exact HO355.out) (Kd.R_base ho0) hb)
                              have n9_ := Aside0.mk (Kd.R_elder' (by (with_reducible repeat (first | apply Kd.R_alloc | apply Kd.R_drewN | apply Kd.R_drew)); exact HO358.out) (Kd.R_base ho0) hb)
                              have n10_ := Aside0.mk (Kd.R_lower (Kd.R_new' (Kd.R_new' (Kd.R_new' (Kd.R_new' (Kd.R_new' (Kd.R_new' (Kd.R_new' (Kd.R_new' (Kd.R_new' (Kd.R_new' ho0 (Kd.R_lt (by (with_reducible repeat (first | apply Kd.R_alloc | apply Kd.R_drewN | apply Kd.R_drew)); exact HO298.out))) (Kd.R_lt (by (with_reducible repeat (first | apply Kd.R_alloc | apply Kd.R_drewN | apply Kd.R_drew)); exact HO302.out))) (Kd.R_lt (by (with_reducible repeat (first | apply Kd.R_alloc | apply Kd.R_drewN | apply Kd.R_drew)); exact HO304.out))) (Kd.R_lt (by (with_reducible repeat (first | apply Kd.R_alloc | apply Kd.R_drewN | apply Kd.R_drew)); exact HO313.out))) (Kd.R_lt (by (with_reducible repeat (first | apply Kd.R_alloc | apply Kd.R_drewN | apply Kd.R_drew)); exact HO327.out))) (Kd.R_lt (by (with_reducible repeat (first | apply Kd.R_alloc | apply Kd.R_drewN | apply Kd.R_drew)); exact HO334.out))) (Kd.R_lt (by (with_reducible repeat (first | apply Kd.R_alloc | apply Kd.R_drewN | apply Kd.R_drew)); exact HO337.out))) (Kd.R_lt (by (with_reducible repeat (first | apply Kd.R_alloc | apply Kd.R_drewN | apply Kd.R_drew)); exact HO340.out))) (Kd.R_lt (by (with_reducible repeat (first | apply Kd.R_alloc | apply Kd.R_drewN | apply Kd.R_drew)); exact HO355.out))) (Kd.R_lt (by (with_reducible repeat (first | apply Kd.R_alloc | apply Kd.R_drewN | apply Kd.R_drew)); exact HO358.out))) (below_size (by repeat (first | (with_reducible first | exact HB.out | apply below_alloc | apply pw_below_drewN | apply below_drew1) | exact HB.out))))
                              have n11_ := Aside0.mk (Kd.C_below (by repeat (first | (with_reducible exact HR344.out) | (with_reducible refine Kd.C_alloc ?_ _) | (with_reducible refine Kd.C_drewN ?_ _) | (with_reducible refine Kd.C_drew ?_) | exact HR344.out)) hb)
                              have n12_ := Aside0.mk (Kd.C_below (by repeat (first | (with_reducible exact HR348.out) | (with_reducible refine Kd.C_alloc ?_ _) | (with_reducible refine Kd.C_drewN ?_ _) | (with_reducible refine Kd.C_drew ?_) | exact HR348.out)) hb)
                              have n13_ := Aside0.mk (Kd.C_below (by repeat (first | (with_reducible exact HR352.out) | (with_reducible refine Kd.C_alloc ?_ _) | (with_reducible refine Kd.C_drewN ?_ _) | (with_reducible refine Kd.C_drew ?_) | exact HR352.out)) hb)
                              have n14_ := Aside0.mk (Kd.C_below (by repeat (first | (with_reducible exact HR362.out) | (with_reducible refine Kd.C_alloc ?_ _) | (with_reducible refine Kd.C_drewN ?_ _) | (with_reducible refine Kd.C_drew ?_) | exact HR362.out)) hb)
                              have n15_ := Aside0.mk (Kd.C_below (by repeat (first | (with_reducible exact HR366.out) | (with_reducible refine Kd.C_alloc ?_ _) | (with_reducible refine Kd.C_drewN ?_ _) | (with_reducible refine Kd.C_drew ?_) | exact HR366.out)) hb)
                              have n16_ := Aside0.mk (Kd.C_below (by repeat (first | (with_reducible exact HR370.out) | (with_reducible refine Kd.C_alloc ?_ _) | (with_reducible refine Kd.C_drewN ?_ _) | (with_reducible refine Kd.C_drew ?_) | exact HR370.out)) hb)
                              have n17_ := Aside0.mk (below_step (by repeat (first | (with_reducible first | exact HB.out | apply below_alloc | apply pw_below_drewN | apply below_drew1) | exact HB.out)) hb)
                              clear HO298
                              clear HO302
                              clear HO304
                              clear HO313
                              clear HO327
                              clear HO334
                              clear HO337
                              clear HO340
                              clear HO355
                              clear HO358
                              clear HR344
                              clear HR348
                              clear HR352
                              clear HR362
                              clear HR366
                              clear HR370
                              clear HB
                              have HO298 := n0_
                              have HO302 := n1_
                              have HO304 := n2_
                              have HO313 := n3_
                              have HO327 := n4_
                              have HO334 := n5_
                              have HO337 := n6_
                              have HO340 := n7_
                              have HO355 := n8_
                              have HO358 := n9_
                              have HO373 := n10_
                              have HR344 := n11_
                              have HR348 := n12_
                              have HR352 := n13_
                              have HR362 := n14_
                              have HR366 := n15_
                              have HR370 := n16_
                              have HB := n17_
                              clear n0_ n1_ n2_ n3_ n4_ n5_ n6_ n7_ n8_ n9_ n10_ n11_ n12_ n13_ n14_ n15_ n16_ n17_
                              (try clear hb)
                              (try clear hb2)
                              (try clear hk)
                              (try clear hi)
                              (try clear ho0)
                              obtain ⟨Ao100, co100, eo100⟩ := Kd.R_slice HO373.out
                              (first | subst eo100 | (injection eo100 with f1_ f2_ f3_; have f4_ := f1_.symm; have f5_ := f3_.symm; clear f1_ f2_ f3_; subst f4_; subst f5_))
                              refine hK.out _ _ trivial (fun hHeld => ?_)
                              clear hK K
                              refine norm_ (a' := ?_) ?_ ?_
                              rotate_left
                              · show Act.put _ (some 122) _ = _
                                simp only [Act.put, List.setIfInBounds_toArray, List.set_cons_zero, List.set_cons_succ, i64_w, i32_w]
                                rfl
                              refine one_ (i := 7) (N := some 123) #[true, true, true, true, true, true, true, true, false] rfl rfl (one_of HT_.out (by kernel_rfl)) (by decide) (fun K hK => ?_)
                              refine goes_ Tryd.func15 (by kernel_rfl) rfl #[.slice Ao82 y359.length co82, .slice Ao100 t371.length co100, .bool false] (by rfl) rfl rfl (by (try simp only [List.map_toArray, List.map_cons, List.map_nil]); first | done | rfl | (simp only [List.length_drop, List.length_take]; rfl)) ?_
                              with_reducible refine (impl_Des.calls _ _ y359 _ _ t371 false t374 _ ?side1 ?side2 ?side3 ?side4 A63.out ?sidetab).mono ?_
                              (case sidetab => exact HTab_.out.below (by repeat (first | (with_reducible first | exact HB.out | apply below_alloc | apply pw_below_drewN | apply below_drew1) | exact HB.out)))
                              (case side1 => repeat (first | exact (by repeat (first | (with_reducible exact HR362.out) | (with_reducible refine Kd.C_alloc ?_ _) | (with_reducible refine Kd.C_drewN ?_ _) | (with_reducible refine Kd.C_drew ?_) | exact HR362.out)) | (with_reducible refine Kd.C_alloc ?_ _) | (with_reducible refine Kd.C_drewN ?_ _) | (with_reducible refine Kd.C_drew ?_)))
                              (case side2 => exact HC362.out)
                              (case side3 => repeat (first | exact (Kd.R_reads' HO373.out).2.2 | (with_reducible refine Kd.C_alloc ?_ _) | (with_reducible refine Kd.C_drewN ?_ _) | (with_reducible refine Kd.C_drew ?_)))
                              (case side4 => exact (Kd.R_reads' HO373.out).2.1)
                              rintro e w101 ⟨v375, rfl, ho0, hb⟩
                              refine ⟨_, rfl, ?_⟩
                              have n0_ := Aside0.mk (Kd.R_elder' (by (with_reducible repeat (first | apply Kd.R_alloc | apply Kd.R_drewN | apply Kd.R_drew)); exact HO298.out) (Kd.R_base ho0) hb)
                              have n1_ := Aside0.mk (Kd.R_elder' (by (with_reducible repeat (first | apply Kd.R_alloc | apply Kd.R_drewN | apply Kd.R_drew)); exact HO302.out) (Kd.R_base ho0) hb)
                              have n2_ := Aside0.mk (Kd.R_elder' (by (with_reducible repeat (first | apply Kd.R_alloc | apply Kd.R_drewN | apply Kd.R_drew)); exact HO304.out) (Kd.R_base ho0) hb)
                              have n3_ := Aside0.mk (Kd.R_elder' (by (with_reducible repeat (first | apply Kd.R_alloc | apply Kd.R_drewN | apply Kd.R_drew)); exact HO313.out) (Kd.R_base ho0) hb)
                              have n4_ := Aside0.mk (Kd.R_elder' (by (with_reducible repeat (first | apply Kd.R_alloc | apply Kd.R_drewN | apply Kd.R_drew)); exact HO327.out) (Kd.R_base ho0) hb)
                              have n5_ := Aside0.mk (Kd.R_elder' (by (with_reducible repeat (first | apply Kd.R_alloc | apply Kd.R_drewN | apply Kd.R_drew)); exact HO334.out) (Kd.R_base ho0) hb)
                              have n6_ := Aside0.mk (Kd.R_elder' (by (with_reducible repeat (first | apply Kd.R_alloc | apply Kd.R_drewN | apply Kd.R_drew)); exact HO337.out) (Kd.R_base ho0) hb)
                              have n7_ := Aside0.mk (Kd.R_elder' (by (with_reducible repeat (first | apply Kd.R_alloc | apply Kd.R_drewN | apply Kd.R_drew)); exact HO340.out) (Kd.R_base ho0) hb)
                              have n8_ := Aside0.mk (Kd.R_elder' (by (with_reducible repeat (first | apply Kd.R_alloc | apply Kd.R_drewN | apply Kd.R_drew)); exact HO355.out) (Kd.R_base ho0) hb)
                              have n9_ := Aside0.mk (Kd.R_elder' (by (with_reducible repeat (first | apply Kd.R_alloc | apply Kd.R_drewN | apply Kd.R_drew)); exact HO358.out) (Kd.R_base ho0) hb)
                              have n10_ := Aside0.mk (Kd.R_elder' (by (with_reducible repeat (first | apply Kd.R_alloc | apply Kd.R_drewN | apply Kd.R_drew)); exact HO373.out) (Kd.R_base ho0) hb)
                              have n11_ := Aside0.mk (Kd.R_lower (Kd.R_new' (Kd.R_new' (Kd.R_new' (Kd.R_new' (Kd.R_new' (Kd.R_new' (Kd.R_new' (Kd.R_new' (Kd.R_new' (Kd.R_new' (Kd.R_new' ho0 (Kd.R_lt (by (with_reducible repeat (first | apply Kd.R_alloc | apply Kd.R_drewN | apply Kd.R_drew)); exact HO298.out))) (Kd.R_lt (by (with_reducible repeat (first | apply Kd.R_alloc | apply Kd.R_drewN | apply Kd.R_drew)); exact HO302.out))) (Kd.R_lt (by (with_reducible repeat (first | apply Kd.R_alloc | apply Kd.R_drewN | apply Kd.R_drew)); exact HO304.out))) (Kd.R_lt (by (with_reducible repeat (first | apply Kd.R_alloc | apply Kd.R_drewN | apply Kd.R_drew)); exact HO313.out))) (Kd.R_lt (by (with_reducible repeat (first | apply Kd.R_alloc | apply Kd.R_drewN | apply Kd.R_drew)); exact HO327.out))) (Kd.R_lt (by (with_reducible repeat (first | apply Kd.R_alloc | apply Kd.R_drewN | apply Kd.R_drew)); exact HO334.out))) (Kd.R_lt (by (with_reducible repeat (first | apply Kd.R_alloc | apply Kd.R_drewN | apply Kd.R_drew)); exact HO337.out))) (Kd.R_lt (by (with_reducible repeat (first | apply Kd.R_alloc | apply Kd.R_drewN | apply Kd.R_drew)); exact HO340.out))) (Kd.R_lt (by (with_reducible repeat (first | apply Kd.R_alloc | apply Kd.R_drewN | apply Kd.R_drew)); exact HO355.out))) (Kd.R_lt (by (with_reducible repeat (first | apply Kd.R_alloc | apply Kd.R_drewN | apply Kd.R_drew)); exact HO358.out))) (Kd.R_lt (by (with_reducible repeat (first | apply Kd.R_alloc | apply Kd.R_drewN | apply Kd.R_drew)); exact HO373.out))) (below_size (by repeat (first | (with_reducible first | exact HB.out | apply below_alloc | apply pw_below_drewN | apply below_drew1) | exact HB.out))))
                              have n12_ := Aside0.mk (Kd.C_below (by repeat (first | (with_reducible exact HR344.out) | (with_reducible refine Kd.C_alloc ?_ _) | (with_reducible refine Kd.C_drewN ?_ _) | (with_reducible refine Kd.C_drew ?_) | exact HR344.out)) hb)
                              have n13_ := Aside0.mk (Kd.C_below (by repeat (first | (with_reducible exact HR348.out) | (with_reducible refine Kd.C_alloc ?_ _) | (with_reducible refine Kd.C_drewN ?_ _) | (with_reducible refine Kd.C_drew ?_) | exact HR348.out)) hb)
                              have n14_ := Aside0.mk (Kd.C_below (by repeat (first | (with_reducible exact HR352.out) | (with_reducible refine Kd.C_alloc ?_ _) | (with_reducible refine Kd.C_drewN ?_ _) | (with_reducible refine Kd.C_drew ?_) | exact HR352.out)) hb)
                              have n15_ := Aside0.mk (Kd.C_below (by repeat (first | (with_reducible exact HR362.out) | (with_reducible refine Kd.C_alloc ?_ _) | (with_reducible refine Kd.C_drewN ?_ _) | (with_reducible refine Kd.C_drew ?_) | exact HR362.out)) hb)
                              have n16_ := Aside0.mk (Kd.C_below (by repeat (first | (with_reducible exact HR366.out) | (with_reducible refine Kd.C_alloc ?_ _) | (with_reducible refine Kd.C_drewN ?_ _) | (with_reducible refine Kd.C_drew ?_) | exact HR366.out)) hb)
                              have n17_ := Aside0.mk (Kd.C_below (by repeat (first | (with_reducible exact HR370.out) | (with_reducible refine Kd.C_alloc ?_ _) | (with_reducible refine Kd.C_drewN ?_ _) | (with_reducible refine Kd.C_drew ?_) | exact HR370.out)) hb)
                              have n18_ := Aside0.mk (below_step (by repeat (first | (with_reducible first | exact HB.out | apply below_alloc | apply pw_below_drewN | apply below_drew1) | exact HB.out)) hb)
                              clear HO298
                              clear HO302
                              clear HO304
                              clear HO313
                              clear HO327
                              clear HO334
                              clear HO337
                              clear HO340
                              clear HO355
                              clear HO358
                              clear HO373
                              clear HR344
                              clear HR348
                              clear HR352
                              clear HR362
                              clear HR366
                              clear HR370
                              clear HB
                              have HO298 := n0_
                              have HO302 := n1_
                              have HO304 := n2_
                              have HO313 := n3_
                              have HO327 := n4_
                              have HO334 := n5_
                              have HO337 := n6_
                              have HO340 := n7_
                              have HO355 := n8_
                              have HO358 := n9_
                              have HO373 := n10_
                              have HO376 := n11_
                              have HR344 := n12_
                              have HR348 := n13_
                              have HR352 := n14_
                              have HR362 := n15_
                              have HR366 := n16_
                              have HR370 := n17_
                              have HB := n18_
                              clear n0_ n1_ n2_ n3_ n4_ n5_ n6_ n7_ n8_ n9_ n10_ n11_ n12_ n13_ n14_ n15_ n16_ n17_ n18_
                              (try clear hb)
                              (try clear hb2)
                              (try clear hk)
                              (try clear hi)
                              (try clear ho0)
                              refine hK.out _ _ trivial (fun hHeld => ?_)
                              clear hK K
                              refine norm_ (a' := ?_) ?_ ?_
                              rotate_left
                              · show Act.put _ (some 123) _ = _
                                simp only [Act.put, List.setIfInBounds_toArray, List.set_cons_zero, List.set_cons_succ, i64_w, i32_w]
                                rfl
                              refine pure_ (i := 8) (N := some 14) (v := ?_) (a' := ?_) #[true, true, true, true, true, true, true, true, true] rfl rfl (any_of HT_.out (by kernel_rfl)) (fun _ _ _ h => h) (Or.inl ⟨by rfl, ?_⟩) ?_ ?_
                              rotate_left
                              · intro w'
                                go_simp
                                with_reducible rfl
                              rotate_left
                              · simp only [Act.put, List.setIfInBounds_toArray, List.set_cons_zero, List.set_cons_succ, i64_w, i32_w]
                                rfl
                              refine done_ (done_of HT_.out (by kernel_rfl)) ?_
                              go_upto_region 23 with (fail)
                              go_cut [131] (fun v131 wc => ∃ (kq : Nat) (x131_63 : Bool), v131 = .bool x131_63 ∧ Aside0 (laws_FnDukpt.j0 kq t311 t332 t338 t356 t374 x131_63 = some r) ∧ Aside0 (kq ≤ k) ∧ Aside0 (Kd.R (Kd.int .u8) 5 wc w.heap.size (fun k_ => some k_ ≠ ((.slice Ao82 t332.length co82) : Value).ownBlock ∧ some k_ ≠ ((.slice Ao89 t338.length co89) : Value).ownBlock ∧ some k_ ≠ (v357 : Value).ownBlock ∧ some k_ ≠ (v375 : Value).ownBlock) v312 t311) ∧ Aside0 (Kd.R (Kd.int .u8) 5 wc w.heap.size (fun k_ => some k_ ≠ (v312 : Value).ownBlock ∧ some k_ ≠ ((.slice Ao89 t338.length co89) : Value).ownBlock ∧ some k_ ≠ (v357 : Value).ownBlock ∧ some k_ ≠ (v375 : Value).ownBlock) (.slice Ao82 t332.length co82) t332) ∧ Aside0 (Kd.R (Kd.int .u8) 5 wc w.heap.size (fun k_ => some k_ ≠ (v312 : Value).ownBlock ∧ some k_ ≠ ((.slice Ao82 t332.length co82) : Value).ownBlock ∧ some k_ ≠ (v357 : Value).ownBlock ∧ some k_ ≠ (v375 : Value).ownBlock) (.slice Ao89 t338.length co89) t338) ∧ Aside0 (Kd.R (Kd.int .u8) 38 wc w.heap.size (fun k_ => some k_ ≠ (v312 : Value).ownBlock ∧ some k_ ≠ ((.slice Ao82 t332.length co82) : Value).ownBlock ∧ some k_ ≠ ((.slice Ao89 t338.length co89) : Value).ownBlock ∧ some k_ ≠ (v375 : Value).ownBlock) v357 t356) ∧ Aside0 (Kd.R (Kd.int .u8) 38 wc w.heap.size (fun k_ => some k_ ≠ (v312 : Value).ownBlock ∧ some k_ ≠ ((.slice Ao82 t332.length co82) : Value).ownBlock ∧ some k_ ≠ ((.slice Ao89 t338.length co89) : Value).ownBlock ∧ some k_ ≠ (v357 : Value).ownBlock) v375 t374) ∧ Aside0 (Kd.C (Kd.int .u8) wc Ao89 y341.length y341) ∧ Aside0 (Kd.C (Kd.int .u8) wc A90 y345.length y345) ∧ Aside0 (Kd.C (Kd.int .u8) wc A91 y349.length y349) ∧ Aside0 (Kd.C (Kd.int .u8) wc Ao82 y359.length y359) ∧ Aside0 (Kd.C (Kd.int .u8) wc A97 y363.length y363) ∧ Aside0 (Kd.C (Kd.int .u8) wc A98 y367.length y367) ∧ Aside0 (Below w.heap.size w wc))
                              case first =>
                                have H := HC64.out
                                clear HC64
                                by_cases c102 : (t356.length : Int) = 8
                                · rw [if_pos c102] at H
                                  have c102b0 : ((t356.length : Int) == 8) = true := beq_iff_eq.mpr c102
                                  have c102b1 : ((t356.length : Int) != 8) = false := bne_eq_false_iff_eq.mpr c102
                                  clear c102
                                  (first | rw [c102b0] | (simp only [i64_w, i32_w]; rw [c102b0]) | skip)
                                  have H' := Aside0.mk H
                                  clear H
                                  obtain ⟨Ao103, co103, eo103⟩ := Kd.R_slice HO358.out
                                  subst eo103
                                  obtain ⟨Ao104, co104, eo104⟩ := Kd.R_slice HO376.out
                                  subst eo104
                                  go_wp2
                                  go_meet
                                  case rel => exact ⟨_, (((t374.length : Int) != 8)), (by first | rfl | (simp; done) | (simp [*]; done)), H', ⟨by first | omega | exact Nat.le_refl _⟩, ⟨by (with_reducible repeat (first | apply Kd.R_alloc | apply Kd.R_drewN | apply Kd.R_drew)); exact Kd.R_mono HO313.out (fun _ hk => ⟨hk.1.1.1.1.1.1.2, ⟨hk.1.1.1.1.2, ⟨hk.1.1.2, hk.2⟩⟩⟩)⟩, ⟨by (with_reducible repeat (first | apply Kd.R_alloc | apply Kd.R_drewN | apply Kd.R_drew)); exact Kd.R_mono HO334.out (fun _ hk => ⟨hk.1.1.1.1.1.1.1.2, ⟨hk.1.1.1.1.2, ⟨hk.1.1.2, hk.2⟩⟩⟩)⟩, ⟨by (with_reducible repeat (first | apply Kd.R_alloc | apply Kd.R_drewN | apply Kd.R_drew)); exact Kd.R_mono HO340.out (fun _ hk => ⟨hk.1.1.1.1.1.1.1.2, ⟨hk.1.1.1.1.1.2, ⟨hk.1.1.2, hk.2⟩⟩⟩)⟩, ⟨by (with_reducible repeat (first | apply Kd.R_alloc | apply Kd.R_drewN | apply Kd.R_drew)); exact Kd.R_mono HO358.out (fun _ hk => ⟨hk.1.1.1.1.1.1.1.2, ⟨hk.1.1.1.1.1.2, ⟨hk.1.1.1.2, hk.2⟩⟩⟩)⟩, ⟨by (with_reducible repeat (first | apply Kd.R_alloc | apply Kd.R_drewN | apply Kd.R_drew)); exact Kd.R_mono HO376.out (fun _ hk => ⟨hk.1.1.1.1.1.1.1.2, ⟨hk.1.1.1.1.1.2, ⟨hk.1.1.1.2, hk.1.2⟩⟩⟩)⟩, ⟨by repeat (first | (with_reducible exact HR344.out) | (with_reducible refine Kd.C_alloc ?_ _) | (with_reducible refine Kd.C_drewN ?_ _) | (with_reducible refine Kd.C_drew ?_) | exact HR344.out)⟩, ⟨by repeat (first | (with_reducible exact HR348.out) | (with_reducible refine Kd.C_alloc ?_ _) | (with_reducible refine Kd.C_drewN ?_ _) | (with_reducible refine Kd.C_drew ?_) | exact HR348.out)⟩, ⟨by repeat (first | (with_reducible exact HR352.out) | (with_reducible refine Kd.C_alloc ?_ _) | (with_reducible refine Kd.C_drewN ?_ _) | (with_reducible refine Kd.C_drew ?_) | exact HR352.out)⟩, ⟨by repeat (first | (with_reducible exact HR362.out) | (with_reducible refine Kd.C_alloc ?_ _) | (with_reducible refine Kd.C_drewN ?_ _) | (with_reducible refine Kd.C_drew ?_) | exact HR362.out)⟩, ⟨by repeat (first | (with_reducible exact HR366.out) | (with_reducible refine Kd.C_alloc ?_ _) | (with_reducible refine Kd.C_drewN ?_ _) | (with_reducible refine Kd.C_drew ?_) | exact HR366.out)⟩, ⟨by repeat (first | (with_reducible exact HR370.out) | (with_reducible refine Kd.C_alloc ?_ _) | (with_reducible refine Kd.C_drewN ?_ _) | (with_reducible refine Kd.C_drew ?_) | exact HR370.out)⟩, ⟨by repeat (first | (with_reducible first | exact HB.out | apply below_alloc | apply pw_below_drewN | apply below_drew1) | exact HB.out)⟩⟩
                                · rw [if_neg c102] at H
                                  have c102b0 : ((t356.length : Int) == 8) = false := beq_eq_false_iff_ne.mpr c102
                                  have c102b1 : ((t356.length : Int) != 8) = true := bne_iff_ne.mpr c102
                                  (first | rw [c102b0] | (simp only [i64_w, i32_w]; rw [c102b0]) | skip)
                                  have H' := Aside0.mk H
                                  clear H
                                  obtain ⟨Ao105, co105, eo105⟩ := Kd.R_slice HO358.out
                                  subst eo105
                                  go_wp2
                                  go_meet
                                  case rel => exact ⟨_, (true), (by first | rfl | (simp; done) | (simp [*]; done)), H', ⟨by first | omega | exact Nat.le_refl _⟩, ⟨by (with_reducible repeat (first | apply Kd.R_alloc | apply Kd.R_drewN | apply Kd.R_drew)); exact Kd.R_mono HO313.out (fun _ hk => ⟨hk.1.1.1.1.1.1.2, ⟨hk.1.1.1.1.2, ⟨hk.1.1.2, hk.2⟩⟩⟩)⟩, ⟨by (with_reducible repeat (first | apply Kd.R_alloc | apply Kd.R_drewN | apply Kd.R_drew)); exact Kd.R_mono HO334.out (fun _ hk => ⟨hk.1.1.1.1.1.1.1.2, ⟨hk.1.1.1.1.2, ⟨hk.1.1.2, hk.2⟩⟩⟩)⟩, ⟨by (with_reducible repeat (first | apply Kd.R_alloc | apply Kd.R_drewN | apply Kd.R_drew)); exact Kd.R_mono HO340.out (fun _ hk => ⟨hk.1.1.1.1.1.1.1.2, ⟨hk.1.1.1.1.1.2, ⟨hk.1.1.2, hk.2⟩⟩⟩)⟩, ⟨by (with_reducible repeat (first | apply Kd.R_alloc | apply Kd.R_drewN | apply Kd.R_drew)); exact Kd.R_mono HO358.out (fun _ hk => ⟨hk.1.1.1.1.1.1.1.2, ⟨hk.1.1.1.1.1.2, ⟨hk.1.1.1.2, hk.2⟩⟩⟩)⟩, ⟨by (with_reducible repeat (first | apply Kd.R_alloc | apply Kd.R_drewN | apply Kd.R_drew)); exact Kd.R_mono HO376.out (fun _ hk => ⟨hk.1.1.1.1.1.1.1.2, ⟨hk.1.1.1.1.1.2, ⟨hk.1.1.1.2, hk.1.2⟩⟩⟩)⟩, ⟨by repeat (first | (with_reducible exact HR344.out) | (with_reducible refine Kd.C_alloc ?_ _) | (with_reducible refine Kd.C_drewN ?_ _) | (with_reducible refine Kd.C_drew ?_) | exact HR344.out)⟩, ⟨by repeat (first | (with_reducible exact HR348.out) | (with_reducible refine Kd.C_alloc ?_ _) | (with_reducible refine Kd.C_drewN ?_ _) | (with_reducible refine Kd.C_drew ?_) | exact HR348.out)⟩, ⟨by repeat (first | (with_reducible exact HR352.out) | (with_reducible refine Kd.C_alloc ?_ _) | (with_reducible refine Kd.C_drewN ?_ _) | (with_reducible refine Kd.C_drew ?_) | exact HR352.out)⟩, ⟨by repeat (first | (with_reducible exact HR362.out) | (with_reducible refine Kd.C_alloc ?_ _) | (with_reducible refine Kd.C_drewN ?_ _) | (with_reducible refine Kd.C_drew ?_) | exact HR362.out)⟩, ⟨by repeat (first | (with_reducible exact HR366.out) | (with_reducible refine Kd.C_alloc ?_ _) | (with_reducible refine Kd.C_drewN ?_ _) | (with_reducible refine Kd.C_drew ?_) | exact HR366.out)⟩, ⟨by repeat (first | (with_reducible exact HR370.out) | (with_reducible refine Kd.C_alloc ?_ _) | (with_reducible refine Kd.C_drewN ?_ _) | (with_reducible refine Kd.C_drew ?_) | exact HR370.out)⟩, ⟨by repeat (first | (with_reducible first | exact HB.out | apply below_alloc | apply pw_below_drewN | apply below_drew1) | exact HB.out)⟩⟩
                              case rest =>
                                clear HC64
                                try clear c1
                                try clear p2
                                try clear c3
                                try clear q8
                                try clear c9
                                try clear q9
                                try clear c10
                                try clear c15
                                try clear c34
                                try clear q88
                                try clear c90
                                try clear q90
                                try clear c91
                                try clear q91
                                try clear q96
                                try clear c97
                                try clear q97
                                try clear c98
                                try clear q98
                                try clear c102
                                try clear c102b0
                                try clear c102b1
                                try clear q88
                                try clear q90
                                try clear q91
                                try clear q96
                                try clear q97
                                try clear q98
                                obtain ⟨kq, x131_63, rfl, HA, HJ63, HO_7, HO_10, HO_12, HO_13, HO_14, HR344, HR348, HR352, HR362, HR366, HR370, HB⟩ := hcut
                                cases kq with
                                | zero => exact absurd HA.out (by simp [laws_FnDukpt.j0])
                                | succ kj63 =>
                                  have H := HA.out
                                  clear HA
                                  simp only [laws_FnDukpt.j0] at H
                                  by_cases c106 : x131_63 = true
                                  · subst c106
                                    have H1 : (some false) = some r := by rw [if_pos rfl] at H; exact H
                                    clear H
                                    have H := H1
                                    clear H1
                                    obtain rfl := Option.some.inj H
                                    exact absurd hrt (by decide)
                                  · replace c106 := Bool.eq_false_iff.mpr c106
                                    subst c106
                                    have H1 : (if 8 ≤ (t338.length : Int) then ((laws_xor.f kj63 t356 (t338.drop 8)).bind fun t381 => (if 8 ≤ (t332.length : Int) then ((laws_xor.f kj63 t374 (t332.drop 8)).bind fun t388 => (if t381.length + t388.length < 140737488355328 then ((laws_same.f t311 (t381 ++ t388)).bind fun t394 => (some t394)) else (none))) else (none))) else (none)) = some r := by rw [if_neg (show ¬ (false = true) by decide)] at H; exact H
                                    clear H
                                    have H := H1
                                    clear H1
                                    by_cases c107 : 8 ≤ (t338.length : Int)
                                    · rw [if_pos c107] at H
                                      have c107b0 := eq_true c107
                                      have c107b1 : decide (8 ≤ (t338.length : Int)) = true := decide_eq_true c107
                                      clear c107
                                      obtain ⟨y377, hy377⟩ : ∃ y_ : List Int, y_ = (t338.drop 8) := ⟨_, rfl⟩
                                      replace H : ((laws_xor.f kj63 t356 y377).bind fun t381 => (if 8 ≤ (t332.length : Int) then ((laws_xor.f kj63 t374 (t332.drop 8)).bind fun t388 => (if t381.length + t388.length < 140737488355328 then ((laws_same.f t311 (t381 ++ t388)).bind fun t394 => (some t394)) else (none))) else (none))) = some r := by first | (rw [hy377]; with_reducible exact H) | (have H2_ := (Option.bind_some _ _).symm.trans H; rw [hy377]; with_reducible exact H2_) | (have H2_ := (Option.bind_some _ _).symm.trans H; with_reducible exact H2_) | with_reducible exact H | (rw [hy377]; exact H) | exact H
                                      have Ny377 := Aside0.mk hy377
                                      clear hy377
                                      replace H := Option.bind_eq_some_iff.mp H
                                      obtain ⟨t381, A1080, H⟩ := H
                                      replace H : (if 8 ≤ (t332.length : Int) then ((laws_xor.f kj63 t374 (t332.drop 8)).bind fun t388 => (if t381.length + t388.length < 140737488355328 then ((laws_same.f t311 (t381 ++ t388)).bind fun t394 => (some t394)) else (none))) else (none)) = some r := H
                                      have A108 := Aside0.mk A1080
                                      clear A1080
                                      by_cases c109 : 8 ≤ (t332.length : Int)
                                      · rw [if_pos c109] at H
                                        have c109b0 := eq_true c109
                                        have c109b1 : decide (8 ≤ (t332.length : Int)) = true := decide_eq_true c109
                                        clear c109
                                        obtain ⟨y384, hy384⟩ : ∃ y_ : List Int, y_ = (t332.drop 8) := ⟨_, rfl⟩
                                        replace H : ((laws_xor.f kj63 t374 y384).bind fun t388 => (if t381.length + t388.length < 140737488355328 then ((laws_same.f t311 (t381 ++ t388)).bind fun t394 => (some t394)) else (none))) = some r := by first | (rw [hy384]; with_reducible exact H) | (have H2_ := (Option.bind_some _ _).symm.trans H; rw [hy384]; with_reducible exact H2_) | (have H2_ := (Option.bind_some _ _).symm.trans H; with_reducible exact H2_) | with_reducible exact H | (rw [hy384]; exact H) | exact H
                                        have Ny384 := Aside0.mk hy384
                                        clear hy384
                                        replace H := Option.bind_eq_some_iff.mp H
                                        obtain ⟨t388, A1100, H⟩ := H
                                        replace H : (if t381.length + t388.length < 140737488355328 then ((laws_same.f t311 (t381 ++ t388)).bind fun t394 => (some t394)) else (none)) = some r := H
                                        have A110 := Aside0.mk A1100
                                        clear A1100
                                        by_cases c111 : t381.length + t388.length < 140737488355328
                                        · rw [if_pos c111] at H
                                          have LMc111 := Aside0.mk c111
                                          clear c111
                                          obtain ⟨y391, hy391⟩ : ∃ y_ : List Int, y_ = (t381 ++ t388) := ⟨_, rfl⟩
                                          replace H : ((laws_same.f t311 y391).bind fun t394 => (some t394)) = some r := by first | (rw [hy391]; with_reducible exact H) | (have H2_ := (Option.bind_some _ _).symm.trans H; rw [hy391]; with_reducible exact H2_) | (have H2_ := (Option.bind_some _ _).symm.trans H; with_reducible exact H2_) | with_reducible exact H | (rw [hy391]; exact H) | exact H
                                          have Ny391 := Aside0.mk hy391
                                          clear hy391
                                          replace H := Option.bind_eq_some_iff.mp H
                                          obtain ⟨t394, A1120, H⟩ := H
                                          replace H : (some t394) = some r := H
                                          have A112 := Aside0.mk A1120
                                          clear A1120
                                          obtain rfl := Option.some.inj H
                                          try go_wp2
                                          have n0_ := Aside0.mk (Kd.R_drew HO_7.out)
                                          have n1_ := Aside0.mk (Kd.R_drew HO_10.out)
                                          have n2_ := Aside0.mk (Kd.R_drew HO_12.out)
                                          have n3_ := Aside0.mk (Kd.R_drew HO_13.out)
                                          have n4_ := Aside0.mk (Kd.R_drew HO_14.out)
                                          have n5_ := Aside0.mk (Kd.C_drew HR344.out)
                                          have n6_ := Aside0.mk (Kd.C_drew HR348.out)
                                          have n7_ := Aside0.mk (Kd.C_drew HR352.out)
                                          have n8_ := Aside0.mk (Kd.C_drew HR362.out)
                                          have n9_ := Aside0.mk (Kd.C_drew HR366.out)
                                          have n10_ := Aside0.mk (Kd.C_drew HR370.out)
                                          have n11_ := Aside0.mk (below_drew1 HB.out)
                                          clear HO_7
                                          clear HO_10
                                          clear HO_12
                                          clear HO_13
                                          clear HO_14
                                          clear HR344
                                          clear HR348
                                          clear HR352
                                          clear HR362
                                          clear HR366
                                          clear HR370
                                          clear HB
                                          have HO_7 := n0_
                                          have HO_10 := n1_
                                          have HO_12 := n2_
                                          have HO_13 := n3_
                                          have HO_14 := n4_
                                          have HR344 := n5_
                                          have HR348 := n6_
                                          have HR352 := n7_
                                          have HR362 := n8_
                                          have HR366 := n9_
                                          have HR370 := n10_
                                          have HB := n11_
                                          clear n0_ n1_ n2_ n3_ n4_ n5_ n6_ n7_ n8_ n9_ n10_ n11_
                                          have q114 : (8 : Int) ≤ ((t338.length : Int) : Int) := of_decide_eq_true (by first | (with_reducible assumption) | assumption)
                                          obtain ⟨i0114, hi0114, _, hsz114, _⟩ := info_parts info5
                                          have hroom114 : t338.length ≤ co89 := (Kd.R_reads' HO_12.out).2.1
                                          have hC114 : Kd.C (Kd.int .u8) _ Ao89 t338.length t338 := (Kd.R_reads' HO_12.out).2.2
                                          have hcut114 := cut_from (P := Tryd.prog) 22 5 .i64 Tryd.underlying22 hi0114 1 hsz114 Ao89 t338.length co89 8 (by omega) q114
                                          have hr114 := Kd.C_drop (m := (8 : Int).toNat) (c := co89) hC114 (by omega) hroom114
                                          try clear hcut91
                                          obtain ⟨A114, hA114⟩ : ∃ A1, A1 = (if co89 = (8 : Int).toNat then Ao89 else (Ao89 : Option Addr).map (·.add ((8 : Int).toNat * 1))) := ⟨_, rfl⟩
                                          obtain ⟨c114, hc114⟩ : ∃ c1, c1 = co89 - (8 : Int).toNat := ⟨_, rfl⟩
                                          have hy114 : y377.length = t338.length - (8 : Int).toNat := (by rw [Ny377.out, List.length_drop] <;> omega)
                                          rw [show (t338).drop (8 : Int).toNat = y377 from Ny377.out.symm] at hr114
                                          replace hr114 : Kd.C (Kd.int .u8) _ A114 y377.length y377 := (by rw [hA114]; exact hr114)
                                          rw [← hy114, ← hA114, ← hc114] at hcut114
                                          have HR380 := Aside0.mk hr114
                                          have HC380 := Aside0.mk (show y377.length ≤ c114 from by rw [hy114, hc114]; exact Nat.sub_le_sub_right hroom114 _)
                                          clear hr114 hC114 hroom114 hi0114 hsz114 hc114
                                          have KY114 := Aside0.mk hy114
                                          have KA114 := Aside0.mk hA114
                                          clear hy114 hA114
                                          have KL114 := Aside0.mk (show 8 ≤ t338.length from by omega)
                                          replace q114 := eq_true q114
                                          have q115 : (8 : Int) ≤ ((t332.length : Int) : Int) := of_decide_eq_true (by first | (with_reducible assumption) | assumption)
                                          obtain ⟨i0115, hi0115, _, hsz115, _⟩ := info_parts info5
                                          have hroom115 : t332.length ≤ co82 := (Kd.R_reads' HO_10.out).2.1
                                          have hC115 : Kd.C (Kd.int .u8) _ Ao82 t332.length t332 := (Kd.R_reads' HO_10.out).2.2
                                          have hcut115 := cut_from (P := Tryd.prog) 22 5 .i64 Tryd.underlying22 hi0115 1 hsz115 Ao82 t332.length co82 8 (by omega) q115
                                          have hr115 := Kd.C_drop (m := (8 : Int).toNat) (c := co82) hC115 (by omega) hroom115
                                          try clear hcut98
                                          obtain ⟨A115, hA115⟩ : ∃ A1, A1 = (if co82 = (8 : Int).toNat then Ao82 else (Ao82 : Option Addr).map (·.add ((8 : Int).toNat * 1))) := ⟨_, rfl⟩
                                          obtain ⟨c115, hc115⟩ : ∃ c1, c1 = co82 - (8 : Int).toNat := ⟨_, rfl⟩
                                          have hy115 : y384.length = t332.length - (8 : Int).toNat := (by rw [Ny384.out, List.length_drop] <;> omega)
                                          rw [show (t332).drop (8 : Int).toNat = y384 from Ny384.out.symm] at hr115
                                          replace hr115 : Kd.C (Kd.int .u8) _ A115 y384.length y384 := (by rw [hA115]; exact hr115)
                                          rw [← hy115, ← hA115, ← hc115] at hcut115
                                          have HR387 := Aside0.mk hr115
                                          have HC387 := Aside0.mk (show y384.length ≤ c115 from by rw [hy115, hc115]; exact Nat.sub_le_sub_right hroom115 _)
                                          clear hr115 hC115 hroom115 hi0115 hsz115 hc115
                                          have KY115 := Aside0.mk hy115
                                          have KA115 := Aside0.mk hA115
                                          clear hy115 hA115
                                          have KL115 := Aside0.mk (show 8 ≤ t332.length from by omega)
                                          replace q115 := eq_true q115
                                          obtain ⟨Ao116, co116, eo116⟩ := Kd.R_slice HO_13.out
                                          (first | subst eo116 | (injection eo116 with f1_ f2_ f3_; have f4_ := f1_.symm; have f5_ := f3_.symm; clear f1_ f2_ f3_; subst f4_; subst f5_))
                                          refine start_ (n := 12) (S := fun w' => True) (ds := []) #[false, false, false, false, false, false, false, false, false, false, false, false] (by kernel_rfl) rfl rfl trivial (fun hHeld => ?_); refine with_tabW laws_FnDukpt.tab25 laws_FnDukpt.bits25 (fun HT_ HW_ => ?_)
                                          generalize wc.drew = w113 at HO_7 HO_10 HO_12 HO_13 HO_14 HR344 HR348 HR352 HR362 HR366 HR370 HB HR380 HR387 hHeld ⊢
                                          refine pure_ (i := 0) (N := some 132) (v := ?_) (a' := ?_) #[true, false, false, false, false, false, false, false, false, false, false, false] rfl rfl (any_of HT_.out (by kernel_rfl)) (fun _ _ _ h => h) (Or.inl ⟨by rfl, ?_⟩) ?_ ?_
                                          rotate_left
                                          · intro w'
                                            go_simp
                                            with_reducible rfl
                                          rotate_left
                                          · simp only [Act.put, List.setIfInBounds_toArray, List.set_cons_zero, List.set_cons_succ, i64_w, i32_w]
                                            rfl
                                          refine pure_ (i := 1) (N := some 133) (v := ?_) (a' := ?_) #[true, true, false, false, false, false, false, false, false, false, false, false] rfl rfl (any_of HT_.out (by kernel_rfl)) (fun _ _ _ h => h) (Or.inl ⟨by rfl, ?_⟩) ?_ ?_
                                          rotate_left
                                          · intro w'
                                            go_simp
                                            with_reducible rfl
                                          rotate_left
                                          · simp only [Act.put, List.setIfInBounds_toArray, List.set_cons_zero, List.set_cons_succ, i64_w, i32_w]
                                            rfl
                                          refine pure_ (i := 2) (N := some 134) (v := ?_) (a' := ?_) #[true, true, true, false, false, false, false, false, false, false, false, false] rfl rfl (any_of HT_.out (by kernel_rfl)) (fun _ _ _ h => h) (Or.inl ⟨by rfl, ?_⟩) ?_ ?_
                                          rotate_left
                                          · intro w'
                                            go_simp
                                            with_reducible rfl
                                          rotate_left
                                          · simp only [Act.put, List.setIfInBounds_toArray, List.set_cons_zero, List.set_cons_succ, i64_w, i32_w]
                                            rfl
                                          refine pure_ (i := 3) (N := some 135) (v := ?_) (a' := ?_) #[true, true, true, true, false, false, false, false, false, false, false, false] rfl rfl (any_of HT_.out (by kernel_rfl)) (fun _ _ _ h => h) (Or.inl ⟨by rfl, ?_⟩) ?_ ?_
                                          rotate_left
                                          · intro w'
                                            go_simp
                                            with_reducible rfl
                                          rotate_left
                                          · simp only [Act.put, List.setIfInBounds_toArray, List.set_cons_zero, List.set_cons_succ, i64_w, i32_w]
                                            rfl
                                          refine pure_ (i := 5) (N := some 137) (v := ?_) (a' := ?_) #[true, true, true, true, false, true, false, false, false, false, false, false] rfl rfl (any_of HT_.out (by kernel_rfl)) (fun _ _ _ h => h) (Or.inl ⟨by rfl, ?_⟩) ?_ ?_
                                          rotate_left
                                          · intro w'
                                            go_simp
                                            with_reducible rfl
                                          rotate_left
                                          · simp only [Act.put, List.setIfInBounds_toArray, List.set_cons_zero, List.set_cons_succ, i64_w, i32_w]
                                            rfl
                                          refine pure_ (i := 6) (N := some 138) (v := ?_) (a' := ?_) #[true, true, true, true, false, true, true, false, false, false, false, false] rfl rfl (any_of HT_.out (by kernel_rfl)) (fun _ _ _ h => h) (Or.inl ⟨by rfl, ?_⟩) ?_ ?_
                                          rotate_left
                                          · intro w'
                                            go_simp
                                            with_reducible rfl
                                          rotate_left
                                          · simp only [Act.put, List.setIfInBounds_toArray, List.set_cons_zero, List.set_cons_succ, i64_w, i32_w]
                                            rfl
                                          refine pure_ (i := 7) (N := some 139) (v := ?_) (a' := ?_) #[true, true, true, true, false, true, true, true, false, false, false, false] rfl rfl (any_of HT_.out (by kernel_rfl)) (fun _ _ _ h => h) (Or.inl ⟨by rfl, ?_⟩) ?_ ?_
                                          rotate_left
                                          · intro w'
                                            go_simp
                                            with_reducible rfl
                                          rotate_left
                                          · simp only [Act.put, List.setIfInBounds_toArray, List.set_cons_zero, List.set_cons_succ, i64_w, i32_w]
                                            rfl
                                          refine one_ (i := 4) (N := some 136) #[true, true, true, true, true, true, true, true, false, false, false, false] rfl rfl (one_of HT_.out (by kernel_rfl)) (by decide) (fun K hK => ?_)
                                          refine goes_ Tryd.func34 (by kernel_rfl) rfl #[.slice Ao116 t356.length co116, .slice A114 y377.length c114] (by rfl) rfl rfl (by (try simp only [List.map_toArray, List.map_cons, List.map_nil]); first | done | rfl | (simp only [List.length_drop, List.length_take]; rfl)) ?_
                                          with_reducible refine (laws_xor.calls kj63 _ _ t356 _ _ y377 t381 _ ?side1 ?side2 ?side3 ?side4 A108.out).mono ?_
                                          (case side1 => repeat (first | exact (Kd.R_reads' HO_13.out).2.2 | (with_reducible refine Kd.C_alloc ?_ _) | (with_reducible refine Kd.C_drewN ?_ _) | (with_reducible refine Kd.C_drew ?_)))
                                          (case side2 => exact (Kd.R_reads' HO_13.out).2.1)
                                          (case side3 => repeat (first | exact (by repeat (first | (with_reducible exact HR380.out) | (with_reducible refine Kd.C_alloc ?_ _) | (with_reducible refine Kd.C_drewN ?_ _) | (with_reducible refine Kd.C_drew ?_) | exact HR380.out)) | (with_reducible refine Kd.C_alloc ?_ _) | (with_reducible refine Kd.C_drewN ?_ _) | (with_reducible refine Kd.C_drew ?_)))
                                          (case side4 => exact HC380.out)
                                          rintro e w117 ⟨v382, rfl, ho0, hb⟩
                                          refine ⟨_, rfl, ?_⟩
                                          have n0_ := Aside0.mk (Kd.R_elder' (by (with_reducible repeat (first | apply Kd.R_alloc | apply Kd.R_drewN | apply Kd.R_drew)); exact HO_7.out) (Kd.R_base ho0) hb)
                                          have n1_ := Aside0.mk (Kd.R_elder' (by (with_reducible repeat (first | apply Kd.R_alloc | apply Kd.R_drewN | apply Kd.R_drew)); exact HO_10.out) (Kd.R_base ho0) hb)
                                          have n2_ := Aside0.mk (Kd.R_elder' (by (with_reducible repeat (first | apply Kd.R_alloc | apply Kd.R_drewN | apply Kd.R_drew)); exact HO_12.out) (Kd.R_base ho0) hb)
                                          have n3_ := Aside0.mk (Kd.R_elder' (by (with_reducible repeat (first | apply Kd.R_alloc | apply Kd.R_drewN | apply Kd.R_drew)); exact HO_13.out) (Kd.R_base ho0) hb)
                                          have n4_ := Aside0.mk (Kd.R_elder' (by (with_reducible repeat (first | apply Kd.R_alloc | apply Kd.R_drewN | apply Kd.R_drew)); exact HO_14.out) (Kd.R_base ho0) hb)
                                          have n5_ := Aside0.mk (Kd.R_lower (Kd.R_new' (Kd.R_new' (Kd.R_new' (Kd.R_new' (Kd.R_new' ho0 (Kd.R_lt (by (with_reducible repeat (first | apply Kd.R_alloc | apply Kd.R_drewN | apply Kd.R_drew)); exact HO_7.out))) (Kd.R_lt (by (with_reducible repeat (first | apply Kd.R_alloc | apply Kd.R_drewN | apply Kd.R_drew)); exact HO_10.out))) (Kd.R_lt (by (with_reducible repeat (first | apply Kd.R_alloc | apply Kd.R_drewN | apply Kd.R_drew)); exact HO_12.out))) (Kd.R_lt (by (with_reducible repeat (first | apply Kd.R_alloc | apply Kd.R_drewN | apply Kd.R_drew)); exact HO_13.out))) (Kd.R_lt (by (with_reducible repeat (first | apply Kd.R_alloc | apply Kd.R_drewN | apply Kd.R_drew)); exact HO_14.out))) (below_size (by repeat (first | (with_reducible first | exact HB.out | apply below_alloc | apply pw_below_drewN | apply below_drew1) | exact HB.out))))
                                          have n6_ := Aside0.mk (Kd.C_below (by repeat (first | (with_reducible exact HR344.out) | (with_reducible refine Kd.C_alloc ?_ _) | (with_reducible refine Kd.C_drewN ?_ _) | (with_reducible refine Kd.C_drew ?_) | exact HR344.out)) hb)
                                          have n7_ := Aside0.mk (Kd.C_below (by repeat (first | (with_reducible exact HR348.out) | (with_reducible refine Kd.C_alloc ?_ _) | (with_reducible refine Kd.C_drewN ?_ _) | (with_reducible refine Kd.C_drew ?_) | exact HR348.out)) hb)
                                          have n8_ := Aside0.mk (Kd.C_below (by repeat (first | (with_reducible exact HR352.out) | (with_reducible refine Kd.C_alloc ?_ _) | (with_reducible refine Kd.C_drewN ?_ _) | (with_reducible refine Kd.C_drew ?_) | exact HR352.out)) hb)
                                          have n9_ := Aside0.mk (Kd.C_below (by repeat (first | (with_reducible exact HR362.out) | (with_reducible refine Kd.C_alloc ?_ _) | (with_reducible refine Kd.C_drewN ?_ _) | (with_reducible refine Kd.C_drew ?_) | exact HR362.out)) hb)
                                          have n10_ := Aside0.mk (Kd.C_below (by repeat (first | (with_reducible exact HR366.out) | (with_reducible refine Kd.C_alloc ?_ _) | (with_reducible refine Kd.C_drewN ?_ _) | (with_reducible refine Kd.C_drew ?_) | exact HR366.out)) hb)
                                          have n11_ := Aside0.mk (Kd.C_below (by repeat (first | (with_reducible exact HR370.out) | (with_reducible refine Kd.C_alloc ?_ _) | (with_reducible refine Kd.C_drewN ?_ _) | (with_reducible refine Kd.C_drew ?_) | exact HR370.out)) hb)
                                          have n12_ := Aside0.mk (Kd.C_below (by repeat (first | (with_reducible exact HR380.out) | (with_reducible refine Kd.C_alloc ?_ _) | (with_reducible refine Kd.C_drewN ?_ _) | (with_reducible refine Kd.C_drew ?_) | exact HR380.out)) hb)
                                          have n13_ := Aside0.mk (Kd.C_below (by repeat (first | (with_reducible exact HR387.out) | (with_reducible refine Kd.C_alloc ?_ _) | (with_reducible refine Kd.C_drewN ?_ _) | (with_reducible refine Kd.C_drew ?_) | exact HR387.out)) hb)
                                          have n14_ := Aside0.mk (below_step (by repeat (first | (with_reducible first | exact HB.out | apply below_alloc | apply pw_below_drewN | apply below_drew1) | exact HB.out)) hb)
                                          clear HO_7
                                          clear HO_10
                                          clear HO_12
                                          clear HO_13
                                          clear HO_14
                                          clear HR344
                                          clear HR348
                                          clear HR352
                                          clear HR362
                                          clear HR366
                                          clear HR370
                                          clear HR380
                                          clear HR387
                                          clear HB
                                          have HO_7 := n0_
                                          have HO_10 := n1_
                                          have HO_12 := n2_
                                          have HO_13 := n3_
                                          have HO_14 := n4_
                                          have HO383 := n5_
                                          have HR344 := n6_
                                          have HR348 := n7_
                                          have HR352 := n8_
                                          have HR362 := n9_
                                          have HR366 := n10_
                                          have HR370 := n11_
                                          have HR380 := n12_
                                          have HR387 := n13_
                                          have HB := n14_
                                          clear n0_ n1_ n2_ n3_ n4_ n5_ n6_ n7_ n8_ n9_ n10_ n11_ n12_ n13_ n14_
                                          (try clear hb)
                                          (try clear hb2)
                                          (try clear hk)
                                          (try clear hi)
                                          (try clear ho0)
                                          obtain ⟨Ao118, co118, eo118⟩ := Kd.R_slice HO_14.out
                                          (first | subst eo118 | (injection eo118 with f1_ f2_ f3_; have f4_ := f1_.symm; have f5_ := f3_.symm; clear f1_ f2_ f3_; subst f4_; subst f5_))
                                          refine hK.out _ _ trivial (fun hHeld => ?_)
                                          clear hK K
                                          refine norm_ (a' := ?_) ?_ ?_
                                          rotate_left
                                          · show Act.put _ (some 136) _ = _
                                            simp only [Act.put, List.setIfInBounds_toArray, List.set_cons_zero, List.set_cons_succ, i64_w, i32_w]
                                            rfl
                                          refine one_ (i := 8) (N := some 140) #[true, true, true, true, true, true, true, true, true, false, false, false] rfl rfl (one_of HT_.out (by kernel_rfl)) (by decide) (fun K hK => ?_)
                                          refine goes_ Tryd.func34 (by kernel_rfl) rfl #[.slice Ao118 t374.length co118, .slice A115 y384.length c115] (by rfl) rfl rfl (by (try simp only [List.map_toArray, List.map_cons, List.map_nil]); first | done | rfl | (simp only [List.length_drop, List.length_take]; rfl)) ?_
                                          with_reducible refine (laws_xor.calls kj63 _ _ t374 _ _ y384 t388 _ ?side1 ?side2 ?side3 ?side4 A110.out).mono ?_
                                          (case side1 => repeat (first | exact (Kd.R_reads' HO_14.out).2.2 | (with_reducible refine Kd.C_alloc ?_ _) | (with_reducible refine Kd.C_drewN ?_ _) | (with_reducible refine Kd.C_drew ?_)))
                                          (case side2 => exact (Kd.R_reads' HO_14.out).2.1)
                                          (case side3 => repeat (first | exact (by repeat (first | (with_reducible exact HR387.out) | (with_reducible refine Kd.C_alloc ?_ _) | (with_reducible refine Kd.C_drewN ?_ _) | (with_reducible refine Kd.C_drew ?_) | exact HR387.out)) | (with_reducible refine Kd.C_alloc ?_ _) | (with_reducible refine Kd.C_drewN ?_ _) | (with_reducible refine Kd.C_drew ?_)))
                                          (case side4 => exact HC387.out)
                                          rintro e w119 ⟨v389, rfl, ho0, hb⟩
                                          refine ⟨_, rfl, ?_⟩
                                          have n0_ := Aside0.mk (Kd.R_elder' (by (with_reducible repeat (first | apply Kd.R_alloc | apply Kd.R_drewN | apply Kd.R_drew)); exact HO_7.out) (Kd.R_base ho0) hb)
                                          have n1_ := Aside0.mk (Kd.R_elder' (by (with_reducible repeat (first | apply Kd.R_alloc | apply Kd.R_drewN | apply Kd.R_drew)); exact HO_10.out) (Kd.R_base ho0) hb)
                                          have n2_ := Aside0.mk (Kd.R_elder' (by (with_reducible repeat (first | apply Kd.R_alloc | apply Kd.R_drewN | apply Kd.R_drew)); exact HO_12.out) (Kd.R_base ho0) hb)
                                          have n3_ := Aside0.mk (Kd.R_elder' (by (with_reducible repeat (first | apply Kd.R_alloc | apply Kd.R_drewN | apply Kd.R_drew)); exact HO_13.out) (Kd.R_base ho0) hb)
                                          have n4_ := Aside0.mk (Kd.R_elder' (by (with_reducible repeat (first | apply Kd.R_alloc | apply Kd.R_drewN | apply Kd.R_drew)); exact HO_14.out) (Kd.R_base ho0) hb)
                                          have n5_ := Aside0.mk (Kd.R_elder' (by (with_reducible repeat (first | apply Kd.R_alloc | apply Kd.R_drewN | apply Kd.R_drew)); exact HO383.out) (Kd.R_base ho0) hb)
                                          have n6_ := Aside0.mk (Kd.R_lower (Kd.R_new' (Kd.R_new' (Kd.R_new' (Kd.R_new' (Kd.R_new' (Kd.R_new' ho0 (Kd.R_lt (by (with_reducible repeat (first | apply Kd.R_alloc | apply Kd.R_drewN | apply Kd.R_drew)); exact HO_7.out))) (Kd.R_lt (by (with_reducible repeat (first | apply Kd.R_alloc | apply Kd.R_drewN | apply Kd.R_drew)); exact HO_10.out))) (Kd.R_lt (by (with_reducible repeat (first | apply Kd.R_alloc | apply Kd.R_drewN | apply Kd.R_drew)); exact HO_12.out))) (Kd.R_lt (by (with_reducible repeat (first | apply Kd.R_alloc | apply Kd.R_drewN | apply Kd.R_drew)); exact HO_13.out))) (Kd.R_lt (by (with_reducible repeat (first | apply Kd.R_alloc | apply Kd.R_drewN | apply Kd.R_drew)); exact HO_14.out))) (Kd.R_lt (by (with_reducible repeat (first | apply Kd.R_alloc | apply Kd.R_drewN | apply Kd.R_drew)); exact HO383.out))) (below_size (by repeat (first | (with_reducible first | exact HB.out | apply below_alloc | apply pw_below_drewN | apply below_drew1) | exact HB.out))))
                                          have n7_ := Aside0.mk (Kd.C_below (by repeat (first | (with_reducible exact HR344.out) | (with_reducible refine Kd.C_alloc ?_ _) | (with_reducible refine Kd.C_drewN ?_ _) | (with_reducible refine Kd.C_drew ?_) | exact HR344.out)) hb)
                                          have n8_ := Aside0.mk (Kd.C_below (by repeat (first | (with_reducible exact HR348.out) | (with_reducible refine Kd.C_alloc ?_ _) | (with_reducible refine Kd.C_drewN ?_ _) | (with_reducible refine Kd.C_drew ?_) | exact HR348.out)) hb)
                                          have n9_ := Aside0.mk (Kd.C_below (by repeat (first | (with_reducible exact HR352.out) | (with_reducible refine Kd.C_alloc ?_ _) | (with_reducible refine Kd.C_drewN ?_ _) | (with_reducible refine Kd.C_drew ?_) | exact HR352.out)) hb)
                                          have n10_ := Aside0.mk (Kd.C_below (by repeat (first | (with_reducible exact HR362.out) | (with_reducible refine Kd.C_alloc ?_ _) | (with_reducible refine Kd.C_drewN ?_ _) | (with_reducible refine Kd.C_drew ?_) | exact HR362.out)) hb)
                                          have n11_ := Aside0.mk (Kd.C_below (by repeat (first | (with_reducible exact HR366.out) | (with_reducible refine Kd.C_alloc ?_ _) | (with_reducible refine Kd.C_drewN ?_ _) | (with_reducible refine Kd.C_drew ?_) | exact HR366.out)) hb)
                                          have n12_ := Aside0.mk (Kd.C_below (by repeat (first | (with_reducible exact HR370.out) | (with_reducible refine Kd.C_alloc ?_ _) | (with_reducible refine Kd.C_drewN ?_ _) | (with_reducible refine Kd.C_drew ?_) | exact HR370.out)) hb)
                                          have n13_ := Aside0.mk (Kd.C_below (by repeat (first | (with_reducible exact HR380.out) | (with_reducible refine Kd.C_alloc ?_ _) | (with_reducible refine Kd.C_drewN ?_ _) | (with_reducible refine Kd.C_drew ?_) | exact HR380.out)) hb)
                                          have n14_ := Aside0.mk (Kd.C_below (by repeat (first | (with_reducible exact HR387.out) | (with_reducible refine Kd.C_alloc ?_ _) | (with_reducible refine Kd.C_drewN ?_ _) | (with_reducible refine Kd.C_drew ?_) | exact HR387.out)) hb)
                                          have n15_ := Aside0.mk (below_step (by repeat (first | (with_reducible first | exact HB.out | apply below_alloc | apply pw_below_drewN | apply below_drew1) | exact HB.out)) hb)
                                          clear HO_7
                                          clear HO_10
                                          clear HO_12
                                          clear HO_13
                                          clear HO_14
                                          clear HO383
                                          clear HR344
                                          clear HR348
                                          clear HR352
                                          clear HR362
                                          clear HR366
                                          clear HR370
                                          clear HR380
                                          clear HR387
                                          clear HB
                                          have HO_7 := n0_
                                          have HO_10 := n1_
                                          have HO_12 := n2_
                                          have HO_13 := n3_
                                          have HO_14 := n4_
                                          have HO383 := n5_
                                          have HO390 := n6_
                                          have HR344 := n7_
                                          have HR348 := n8_
                                          have HR352 := n9_
                                          have HR362 := n10_
                                          have HR366 := n11_
                                          have HR370 := n12_
                                          have HR380 := n13_
                                          have HR387 := n14_
                                          have HB := n15_
                                          clear n0_ n1_ n2_ n3_ n4_ n5_ n6_ n7_ n8_ n9_ n10_ n11_ n12_ n13_ n14_ n15_
                                          (try clear hb)
                                          (try clear hb2)
                                          (try clear hk)
                                          (try clear hi)
                                          (try clear ho0)
                                          obtain ⟨Ao121, co121, eo121⟩ := Kd.R_slice HO390.out
                                          (first | subst eo121 | (injection eo121 with f1_ f2_ f3_; have f4_ := f1_.symm; have f5_ := f3_.symm; clear f1_ f2_ f3_; subst f4_; subst f5_))
                                          refine hK.out _ _ trivial (fun hHeld => ?_)
                                          clear hK K
                                          refine norm_ (a' := ?_) ?_ ?_
                                          rotate_left
                                          · show Act.put _ (some 140) _ = _
                                            simp only [Act.put, List.setIfInBounds_toArray, List.set_cons_zero, List.set_cons_succ, i64_w, i32_w]
                                            rfl
                                          refine one_ (i := 9) (N := some 141) #[true, true, true, true, true, true, true, true, true, true, false, false] rfl rfl (one_of HT_.out (by kernel_rfl)) (by decide) (fun K hK => ?_)
                                          refine Kd.R_append_rows_step (Kd.int .u8) (w0 := w) w.heap.size (by rfl) (.tmp 136) (.tmp 140) 22 5 (.int .u8 0) 1 rfl Tryd.underlying22 info5 rfl (by decide) (by omega) v382 t381 t388 _ _ _ (fun k_ => some k_ ≠ (v312 : Value).ownBlock ∧ some k_ ≠ (.slice Ao82 t332.length co82 : Value).ownBlock ∧ some k_ ≠ (.slice Ao89 t338.length co89 : Value).ownBlock ∧ some k_ ≠ (.slice Ao116 t356.length co116 : Value).ownBlock ∧ some k_ ≠ (.slice Ao118 t374.length co118 : Value).ownBlock ∧ some k_ ≠ (.slice Ao121 t388.length co121 : Value).ownBlock) (fun _ => False) rfl rfl ?aO ?aR (fun _ _ h => h) (fun _ h => h.elim) ?aF ?aB ?aS ?aL ?_
                                          (case aR => repeat (first | exact (Kd.R_reads' HO390.out).2.2 | (with_reducible refine Kd.C_alloc ?_ _) | (with_reducible refine Kd.C_drewN ?_ _) | (with_reducible refine Kd.C_drew ?_)))
                                          (case aB => exact (by repeat (first | (with_reducible first | exact HB.out | apply below_alloc | apply pw_below_drewN | apply below_drew1) | exact HB.out)))
                                          (case aF => exact (fun k_ hk => ⟨Kd.fresh' (Kd.R_lt (by (with_reducible repeat (first | apply Kd.R_alloc | apply Kd.R_drewN | apply Kd.R_drew)); exact HO_7.out)) k_ hk, Kd.fresh' (Kd.R_lt (by (with_reducible repeat (first | apply Kd.R_alloc | apply Kd.R_drewN | apply Kd.R_drew)); exact HO_10.out)) k_ hk, Kd.fresh' (Kd.R_lt (by (with_reducible repeat (first | apply Kd.R_alloc | apply Kd.R_drewN | apply Kd.R_drew)); exact HO_12.out)) k_ hk, Kd.fresh' (Kd.R_lt (by (with_reducible repeat (first | apply Kd.R_alloc | apply Kd.R_drewN | apply Kd.R_drew)); exact HO_13.out)) k_ hk, Kd.fresh' (Kd.R_lt (by (with_reducible repeat (first | apply Kd.R_alloc | apply Kd.R_drewN | apply Kd.R_drew)); exact HO_14.out)) k_ hk, Kd.fresh' (Kd.R_lt (by (with_reducible repeat (first | apply Kd.R_alloc | apply Kd.R_drewN | apply Kd.R_drew)); exact HO390.out)) k_ hk⟩))
                                          (case aO => exact (by (with_reducible repeat (first | apply Kd.R_alloc | apply Kd.R_drewN | apply Kd.R_drew)); exact Kd.R_mono HO383.out (fun _ hk => ⟨hk.1.1.1.1.1.2, ⟨hk.1.1.1.1.2, ⟨hk.1.1.1.2, ⟨hk.1.1.2, ⟨hk.1.2, hk.2⟩⟩⟩⟩⟩)))
                                          (case aS => exact (below_size (by repeat (first | (with_reducible first | exact HB.out | apply below_alloc | apply pw_below_drewN | apply below_drew1) | exact HB.out))))
                                          (case aL => have := LMc111.out; omega)
                                          intro v392 w120 ho hb hg hat
                                          rw [← Ny391.out] at ho
                                          have n0_ := Aside0.mk (Kd.R_after (ok := (fun k_ => some k_ ≠ (.slice Ao82 t332.length co82 : Value).ownBlock ∧ some k_ ≠ (.slice Ao89 t338.length co89 : Value).ownBlock ∧ some k_ ≠ (.slice Ao116 t356.length co116 : Value).ownBlock ∧ some k_ ≠ (.slice Ao118 t374.length co118 : Value).ownBlock ∧ some k_ ≠ (.slice Ao121 t388.length co121 : Value).ownBlock)) (by (with_reducible repeat (first | apply Kd.R_alloc | apply Kd.R_drewN | apply Kd.R_drew)); exact Kd.R_mono HO_7.out (fun _ hk => ⟨⟨hk.1.1.1, ⟨hk.1.1.2.1, ⟨hk.1.1.2.2.1, ⟨hk.1.1.2.2.2, hk.2⟩⟩⟩⟩, hk.1.2⟩)) hg hat)
                                          have n1_ := Aside0.mk (Kd.R_after (ok := (fun k_ => some k_ ≠ (v312 : Value).ownBlock ∧ some k_ ≠ (.slice Ao89 t338.length co89 : Value).ownBlock ∧ some k_ ≠ (.slice Ao116 t356.length co116 : Value).ownBlock ∧ some k_ ≠ (.slice Ao118 t374.length co118 : Value).ownBlock ∧ some k_ ≠ (.slice Ao121 t388.length co121 : Value).ownBlock)) (by (with_reducible repeat (first | apply Kd.R_alloc | apply Kd.R_drewN | apply Kd.R_drew)); exact Kd.R_mono HO_10.out (fun _ hk => ⟨⟨hk.1.1.1, ⟨hk.1.1.2.1, ⟨hk.1.1.2.2.1, ⟨hk.1.1.2.2.2, hk.2⟩⟩⟩⟩, hk.1.2⟩)) hg hat)
                                          have n2_ := Aside0.mk (Kd.R_after (ok := (fun k_ => some k_ ≠ (v312 : Value).ownBlock ∧ some k_ ≠ (.slice Ao82 t332.length co82 : Value).ownBlock ∧ some k_ ≠ (.slice Ao116 t356.length co116 : Value).ownBlock ∧ some k_ ≠ (.slice Ao118 t374.length co118 : Value).ownBlock ∧ some k_ ≠ (.slice Ao121 t388.length co121 : Value).ownBlock)) (by (with_reducible repeat (first | apply Kd.R_alloc | apply Kd.R_drewN | apply Kd.R_drew)); exact Kd.R_mono HO_12.out (fun _ hk => ⟨⟨hk.1.1.1, ⟨hk.1.1.2.1, ⟨hk.1.1.2.2.1, ⟨hk.1.1.2.2.2, hk.2⟩⟩⟩⟩, hk.1.2⟩)) hg hat)
                                          have n3_ := Aside0.mk (Kd.R_after (ok := (fun k_ => some k_ ≠ (v312 : Value).ownBlock ∧ some k_ ≠ (.slice Ao82 t332.length co82 : Value).ownBlock ∧ some k_ ≠ (.slice Ao89 t338.length co89 : Value).ownBlock ∧ some k_ ≠ (.slice Ao118 t374.length co118 : Value).ownBlock ∧ some k_ ≠ (.slice Ao121 t388.length co121 : Value).ownBlock)) (by (with_reducible repeat (first | apply Kd.R_alloc | apply Kd.R_drewN | apply Kd.R_drew)); exact Kd.R_mono HO_13.out (fun _ hk => ⟨⟨hk.1.1.1, ⟨hk.1.1.2.1, ⟨hk.1.1.2.2.1, ⟨hk.1.1.2.2.2, hk.2⟩⟩⟩⟩, hk.1.2⟩)) hg hat)
                                          have n4_ := Aside0.mk (Kd.R_after (ok := (fun k_ => some k_ ≠ (v312 : Value).ownBlock ∧ some k_ ≠ (.slice Ao82 t332.length co82 : Value).ownBlock ∧ some k_ ≠ (.slice Ao89 t338.length co89 : Value).ownBlock ∧ some k_ ≠ (.slice Ao116 t356.length co116 : Value).ownBlock ∧ some k_ ≠ (.slice Ao121 t388.length co121 : Value).ownBlock)) (by (with_reducible repeat (first | apply Kd.R_alloc | apply Kd.R_drewN | apply Kd.R_drew)); exact Kd.R_mono HO_14.out (fun _ hk => ⟨⟨hk.1.1.1, ⟨hk.1.1.2.1, ⟨hk.1.1.2.2.1, ⟨hk.1.1.2.2.2, hk.2⟩⟩⟩⟩, hk.1.2⟩)) hg hat)
                                          have n5_ := Aside0.mk (Kd.R_after (ok := (fun k_ => some k_ ≠ (v312 : Value).ownBlock ∧ some k_ ≠ (.slice Ao82 t332.length co82 : Value).ownBlock ∧ some k_ ≠ (.slice Ao89 t338.length co89 : Value).ownBlock ∧ some k_ ≠ (.slice Ao116 t356.length co116 : Value).ownBlock ∧ some k_ ≠ (.slice Ao118 t374.length co118 : Value).ownBlock)) (by (with_reducible repeat (first | apply Kd.R_alloc | apply Kd.R_drewN | apply Kd.R_drew)); exact Kd.R_mono HO390.out (fun _ hk => ⟨⟨hk.1.1.1.1.1.2, ⟨hk.1.1.1.1.2, ⟨hk.1.1.1.2, ⟨hk.1.1.2, hk.1.2⟩⟩⟩⟩, hk.2⟩)) hg hat)
                                          have n6_ := Aside0.mk (hb)
                                          have n7_ := Aside0.mk ((show Kd.C (Kd.int .u8) w120 A114 y377.length y377 from by rw [Ny377.out, KA114.out]; exact Kd.C_drop (m := 8) (c := co89) ((Kd.R_reads' (Kd.R_after (ok := (fun k_ => some k_ ≠ (v312 : Value).ownBlock ∧ some k_ ≠ (.slice Ao82 t332.length co82 : Value).ownBlock ∧ some k_ ≠ (.slice Ao116 t356.length co116 : Value).ownBlock ∧ some k_ ≠ (.slice Ao118 t374.length co118 : Value).ownBlock ∧ some k_ ≠ (.slice Ao121 t388.length co121 : Value).ownBlock)) (by (with_reducible repeat (first | apply Kd.R_alloc | apply Kd.R_drewN | apply Kd.R_drew)); exact Kd.R_mono HO_12.out (fun _ hk => ⟨⟨hk.1.1.1, ⟨hk.1.1.2.1, ⟨hk.1.1.2.2.1, ⟨hk.1.1.2.2.2, hk.2⟩⟩⟩⟩, hk.1.2⟩)) hg hat)).2.2) KL114.out ((Kd.R_reads' (Kd.R_after (ok := (fun k_ => some k_ ≠ (v312 : Value).ownBlock ∧ some k_ ≠ (.slice Ao82 t332.length co82 : Value).ownBlock ∧ some k_ ≠ (.slice Ao116 t356.length co116 : Value).ownBlock ∧ some k_ ≠ (.slice Ao118 t374.length co118 : Value).ownBlock ∧ some k_ ≠ (.slice Ao121 t388.length co121 : Value).ownBlock)) (by (with_reducible repeat (first | apply Kd.R_alloc | apply Kd.R_drewN | apply Kd.R_drew)); exact Kd.R_mono HO_12.out (fun _ hk => ⟨⟨hk.1.1.1, ⟨hk.1.1.2.1, ⟨hk.1.1.2.2.1, ⟨hk.1.1.2.2.2, hk.2⟩⟩⟩⟩, hk.1.2⟩)) hg hat)).2.1)))
                                          have n8_ := Aside0.mk ((show Kd.C (Kd.int .u8) w120 A115 y384.length y384 from by rw [Ny384.out, KA115.out]; exact Kd.C_drop (m := 8) (c := co82) ((Kd.R_reads' (Kd.R_after (ok := (fun k_ => some k_ ≠ (v312 : Value).ownBlock ∧ some k_ ≠ (.slice Ao89 t338.length co89 : Value).ownBlock ∧ some k_ ≠ (.slice Ao116 t356.length co116 : Value).ownBlock ∧ some k_ ≠ (.slice Ao118 t374.length co118 : Value).ownBlock ∧ some k_ ≠ (.slice Ao121 t388.length co121 : Value).ownBlock)) (by (with_reducible repeat (first | apply Kd.R_alloc | apply Kd.R_drewN | apply Kd.R_drew)); exact Kd.R_mono HO_10.out (fun _ hk => ⟨⟨hk.1.1.1, ⟨hk.1.1.2.1, ⟨hk.1.1.2.2.1, ⟨hk.1.1.2.2.2, hk.2⟩⟩⟩⟩, hk.1.2⟩)) hg hat)).2.2) KL115.out ((Kd.R_reads' (Kd.R_after (ok := (fun k_ => some k_ ≠ (v312 : Value).ownBlock ∧ some k_ ≠ (.slice Ao89 t338.length co89 : Value).ownBlock ∧ some k_ ≠ (.slice Ao116 t356.length co116 : Value).ownBlock ∧ some k_ ≠ (.slice Ao118 t374.length co118 : Value).ownBlock ∧ some k_ ≠ (.slice Ao121 t388.length co121 : Value).ownBlock)) (by (with_reducible repeat (first | apply Kd.R_alloc | apply Kd.R_drewN | apply Kd.R_drew)); exact Kd.R_mono HO_10.out (fun _ hk => ⟨⟨hk.1.1.1, ⟨hk.1.1.2.1, ⟨hk.1.1.2.2.1, ⟨hk.1.1.2.2.2, hk.2⟩⟩⟩⟩, hk.1.2⟩)) hg hat)).2.1)))
                                          have n9_ := Aside0.mk (ho)
                                          clear HO_7
                                          clear HO_10
                                          clear HO_12
                                          clear HO_13
                                          clear HO_14
                                          clear HO390
                                          clear HB
                                          clear HR380
                                          clear HR387
                                          clear HO383
                                          have HO_7 := n0_
                                          have HO_10 := n1_
                                          have HO_12 := n2_
                                          have HO_13 := n3_
                                          have HO_14 := n4_
                                          have HO390 := n5_
                                          have HB := n6_
                                          have HR380 := n7_
                                          have HR387 := n8_
                                          have HO393 := n9_
                                          clear n0_ n1_ n2_ n3_ n4_ n5_ n6_ n7_ n8_ n9_
                                          clear ho hb hg hat
                                          obtain ⟨Ao122, co122, eo122⟩ := Kd.R_slice HO_7.out
                                          (first | subst eo122 | (injection eo122 with f1_ f2_ f3_; have f4_ := f1_.symm; have f5_ := f3_.symm; clear f1_ f2_ f3_; subst f4_; subst f5_))
                                          obtain ⟨Ao123, co123, eo123⟩ := Kd.R_slice HO393.out
                                          (first | subst eo123 | (injection eo123 with f1_ f2_ f3_; have f4_ := f1_.symm; have f5_ := f3_.symm; clear f1_ f2_ f3_; subst f4_; subst f5_))
                                          refine hK.out _ _ trivial (fun hHeld => ?_)
                                          clear hK K
                                          refine norm_ (a' := ?_) ?_ ?_
                                          rotate_left
                                          · show Act.put _ (some 141) _ = _
                                            simp only [Act.put, List.setIfInBounds_toArray, List.set_cons_zero, List.set_cons_succ, i64_w, i32_w]
                                            rfl
                                          refine one_ (i := 10) (N := some 142) #[true, true, true, true, true, true, true, true, true, true, true, false] rfl rfl (one_of HT_.out (by kernel_rfl)) (by decide) (fun K hK => ?_)
                                          refine goes_ Tryd.func14 (by kernel_rfl) rfl #[.slice Ao122 t311.length co122, .slice Ao123 y391.length co123] (by rfl) rfl rfl (by (try simp only [List.map_toArray, List.map_cons, List.map_nil]); first | done | rfl | (simp only [List.length_drop, List.length_take]; rfl)) ?_
                                          with_reducible refine (laws_same.calls _ _ t311 _ _ y391 t394 _ ?side1 ?side2 ?side3 ?side4 A112.out).mono ?_
                                          (case side1 => repeat (first | exact (Kd.R_reads' HO_7.out).2.2 | (with_reducible refine Kd.C_alloc ?_ _) | (with_reducible refine Kd.C_drewN ?_ _) | (with_reducible refine Kd.C_drew ?_)))
                                          (case side2 => exact (Kd.R_reads' HO_7.out).2.1)
                                          (case side3 => repeat (first | exact (Kd.R_reads' HO393.out).2.2 | (with_reducible refine Kd.C_alloc ?_ _) | (with_reducible refine Kd.C_drewN ?_ _) | (with_reducible refine Kd.C_drew ?_)))
                                          (case side4 => exact (Kd.R_reads' HO393.out).2.1)
                                          rintro e w' ⟨rfl, ⟨nd, rfl⟩⟩
                                          refine ⟨_, rfl, ?_⟩
                                          refine hK.out _ _ trivial (fun hHeld => ?_)
                                          clear hK K
                                          refine norm_ (a' := ?_) ?_ ?_
                                          rotate_left
                                          · show Act.put _ (some 142) _ = _
                                            simp only [Act.put, List.setIfInBounds_toArray, List.set_cons_zero, List.set_cons_succ, i64_w, i32_w]
                                            rfl
                                          refine pure_ (i := 11) (N := some 2) (v := ?_) (a' := ?_) #[true, true, true, true, true, true, true, true, true, true, true, true] rfl rfl (any_of HT_.out (by kernel_rfl)) (fun _ _ _ h => h) (Or.inl ⟨by rfl, ?_⟩) ?_ ?_
                                          rotate_left
                                          · intro w'
                                            go_simp
                                            with_reducible rfl
                                          rotate_left
                                          · simp only [Act.put, List.setIfInBounds_toArray, List.set_cons_zero, List.set_cons_succ, i64_w, i32_w]
                                            rfl
                                          refine done_ (done_of HT_.out (by kernel_rfl)) ?_
                                          try go_wp2
                                          go_ret
                                          exact ⟨by first | rfl | (simp [errW_none, errW_some] <;> rfl) | (simp [*, errW_none, errW_some] <;> rfl), by repeat (first | (with_reducible first | exact HB.out | apply below_alloc | apply pw_below_drewN | apply below_drew1) | exact HB.out)⟩
                                        · rw [if_neg c111] at H
                                          exact absurd H (by simp)
                                      · rw [if_neg c109] at H
                                        exact absurd H (by simp)
                                    · rw [if_neg c107] at H
                                      exact absurd H (by simp)
                            · rw [if_neg c59] at H
                              exact absurd H (by simp)
                          · rw [if_neg c55] at H
                            exact absurd H (by simp)
                        · rw [if_neg c54] at H
                          exact absurd H (by simp)
                      · rw [if_neg c52] at H
                        have c52b0 : ((t332.length : Int) == 16) = false := beq_eq_false_iff_ne.mpr c52
                        have c52b1 : ((t332.length : Int) != 16) = true := bne_iff_ne.mpr c52
                        obtain rfl := Option.some.inj H
                        exact absurd hrt (by decide)
                    · rw [if_neg c49] at H
                      exact absurd H (by simp)
                  · rw [if_neg c47] at H
                    exact absurd H (by simp)
                · rw [if_neg c45] at H
                  exact absurd H (by simp)
              · rw [if_neg c44] at H
                exact absurd H (by simp)
          · rw [if_neg c8] at H
            exact absurd H (by simp)
        · rw [if_neg c7] at H
          exact absurd H (by simp)
      · rw [if_neg c6] at H
        exact absurd H (by simp)
    · rw [if_neg c5] at H
      have c5b0 : ((t300.length : Int) == 10) = false := beq_eq_false_iff_ne.mpr c5
      have c5b1 : ((t300.length : Int) != 10) = true := bne_iff_ne.mpr c5
      replace H := Option.bind_eq_some_iff.mp H
      obtain ⟨t305, A1420, H⟩ := H
      replace H : (some ((t305.length : Int) == 0)) = some r := H
      have A142 := Aside0.mk A1420
      clear A1420
      obtain rfl := Option.some.inj H
      go_enter Tryd.func11, Tryd.ntmps11
      go_wp2_with (first | ((with_reducible refine gate_callee (f := 12) rfl ?_); refine goesL_ (some 19) rfl rfl Tryd.func12 (by kernel_rfl) rfl #[.slice A0 l0.length c0, .int .i64 0, .int .i64 16] rfl (by (try simp only [List.map_toArray, List.map_cons, List.map_nil]); first | done | rfl | (simp only [List.length_drop, List.length_take]; rfl)) ?_; (with_reducible refine (laws_cut.calls k _ _ l0 0 16 t296 _ ?side1 ?side2 A3.out).mono ?_); (case side1 => repeat (first | exact HR0.out | (with_reducible refine Kd.C_alloc ?_ _) | (with_reducible refine Kd.C_drewN ?_ _) | (with_reducible refine Kd.C_drew ?_))); (case side2 => exact HC0.out); rintro e w143 ⟨v297, rfl, ho0, hb⟩; refine ⟨_, rfl, ?_⟩; have n0_ := Aside0.mk (Kd.R_lower ho0 (below_size (by repeat (first | (with_reducible first | exact HB.out | apply below_alloc | apply pw_below_drewN | apply below_drew1) | exact HB.out)))); have n1_ := Aside0.mk (below_step (by repeat (first | (with_reducible first | exact HB.out | apply below_alloc | apply pw_below_drewN | apply below_drew1) | exact HB.out)) hb); clear HB; have HO298 := n0_; have HB := n1_; clear n0_ n1_; (try clear hb); (try clear hb2); (try clear hk); (try clear hi); (try clear ho0)) | ((with_reducible refine gate_callee (f := 33) rfl ?_); refine goesL_ (some 22) rfl rfl Tryd.func33 (by kernel_rfl) rfl #[.slice A0 l0.length c0] rfl (by (try simp only [List.map_toArray, List.map_cons, List.map_nil]); first | done | rfl | (simp only [List.length_drop, List.length_take]; rfl)) ?_; (with_reducible refine (spec_DrawDukptKey.calls _ _ l0 t299 t300 _ ?side1 ?side2 A4.out).mono ?_); (case side1 => repeat (first | exact (Kd.C_below HR0.out HB.out) | (with_reducible refine Kd.C_alloc ?_ _) | (with_reducible refine Kd.C_drewN ?_ _) | (with_reducible refine Kd.C_drew ?_))); (case side2 => exact HC0.out); rintro e w144 ⟨v301, v303, rfl, ho0, ho1, hb⟩; refine ⟨_, rfl, ?_⟩; have n0_ := Aside0.mk (Kd.R_mono (Kd.R_told (Kd.R_told (Kd.R_old (by (with_reducible repeat (first | apply Kd.R_alloc | apply Kd.R_drewN | apply Kd.R_drew)); exact HO298.out) hb) (Kd.R_base ho0)) (Kd.R_base ho1)) (fun _ h_ => h_.1)); have n1_ := Aside0.mk (Kd.R_lower (Kd.R_new' ho0 (Kd.R_lt (by (with_reducible repeat (first | apply Kd.R_alloc | apply Kd.R_drewN | apply Kd.R_drew)); exact HO298.out))) (below_size (by repeat (first | (with_reducible first | exact HB.out | apply below_alloc | apply pw_below_drewN | apply below_drew1) | exact HB.out)))); have n2_ := Aside0.mk (Kd.R_lower (Kd.R_new' ho1 (Kd.R_lt (by (with_reducible repeat (first | apply Kd.R_alloc | apply Kd.R_drewN | apply Kd.R_drew)); exact HO298.out))) (below_size (by repeat (first | (with_reducible first | exact HB.out | apply below_alloc | apply pw_below_drewN | apply below_drew1) | exact HB.out)))); have n3_ := Aside0.mk (below_step (by repeat (first | (with_reducible first | exact HB.out | apply below_alloc | apply pw_below_drewN | apply below_drew1) | exact HB.out)) hb); clear HO298; clear HB; have HO298 := n0_; have HO302 := n1_; have HO304 := n2_; have HB := n3_; clear n0_ n1_ n2_ n3_; (try clear hb); (try clear hb2); (try clear hk); (try clear hi); (try clear ho0); (try clear ho1); obtain ⟨Ao145, co145, eo145⟩ := Kd.R_slice HO304.out; subst eo145; obtain ⟨Ao146, co146, eo146⟩ := Kd.R_slice HO298.out; subst eo146) | ((with_reducible refine gate_callee (f := 32) rfl ?_); refine goesL_ (some 30) rfl rfl Tryd.func32 (by kernel_rfl) rfl #[.slice Ao146 t296.length co146, .slice Ao145 t300.length co145] rfl (by (try simp only [List.map_toArray, List.map_cons, List.map_nil]); first | done | rfl | (simp only [List.length_drop, List.length_take]; rfl)) ?_; (with_reducible refine (impl_DukptKey.calls _ _ t296 _ _ t300 t305 _ ?side1 ?side2 ?side3 ?side4 A142.out ?sidetab).mono ?_); (case sidetab => exact HTab_.out.below (by repeat (first | (with_reducible first | exact HB.out | apply below_alloc | apply pw_below_drewN | apply below_drew1) | exact HB.out))); (case side1 => repeat (first | exact (Kd.R_reads' HO298.out).2.2 | (with_reducible refine Kd.C_alloc ?_ _) | (with_reducible refine Kd.C_drewN ?_ _) | (with_reducible refine Kd.C_drew ?_))); (case side2 => exact (Kd.R_reads' HO298.out).2.1); (case side3 => repeat (first | exact (Kd.R_reads' HO304.out).2.2 | (with_reducible refine Kd.C_alloc ?_ _) | (with_reducible refine Kd.C_drewN ?_ _) | (with_reducible refine Kd.C_drew ?_))); (case side4 => exact (Kd.R_reads' HO304.out).2.1); rintro e w147 ⟨v306, rfl, ho0, hb⟩; refine ⟨_, rfl, ?_⟩; have n0_ := Aside0.mk (Kd.R_elder' (by (with_reducible repeat (first | apply Kd.R_alloc | apply Kd.R_drewN | apply Kd.R_drew)); exact HO298.out) (Kd.R_base ho0) hb); have n1_ := Aside0.mk (Kd.R_elder' (by (with_reducible repeat (first | apply Kd.R_alloc | apply Kd.R_drewN | apply Kd.R_drew)); exact HO302.out) (Kd.R_base ho0) hb); have n2_ := Aside0.mk (Kd.R_elder' (by (with_reducible repeat (first | apply Kd.R_alloc | apply Kd.R_drewN | apply Kd.R_drew)); exact HO304.out) (Kd.R_base ho0) hb); have n3_ := Aside0.mk (Kd.R_lower (Kd.R_new' (Kd.R_new' (Kd.R_new' ho0 (Kd.R_lt (by (with_reducible repeat (first | apply Kd.R_alloc | apply Kd.R_drewN | apply Kd.R_drew)); exact HO298.out))) (Kd.R_lt (by (with_reducible repeat (first | apply Kd.R_alloc | apply Kd.R_drewN | apply Kd.R_drew)); exact HO302.out))) (Kd.R_lt (by (with_reducible repeat (first | apply Kd.R_alloc | apply Kd.R_drewN | apply Kd.R_drew)); exact HO304.out))) (below_size (by repeat (first | (with_reducible first | exact HB.out | apply below_alloc | apply pw_below_drewN | apply below_drew1) | exact HB.out)))); have n4_ := Aside0.mk (below_step (by repeat (first | (with_reducible first | exact HB.out | apply below_alloc | apply pw_below_drewN | apply below_drew1) | exact HB.out)) hb); clear HO298; clear HO302; clear HO304; clear HB; have HO298 := n0_; have HO302 := n1_; have HO304 := n2_; have HO307 := n3_; have HB := n4_; clear n0_ n1_ n2_ n3_ n4_; (try clear hb); (try clear hb2); (try clear hk); (try clear hi); (try clear ho0); obtain ⟨Ao148, co148, eo148⟩ := Kd.R_slice HO307.out; subst eo148))
      go_ret
      exact ⟨by first | rfl | (simp [errW_none, errW_some] <;> rfl) | (simp [*, errW_none, errW_some] <;> rfl), by repeat (first | (with_reducible first | exact HB.out | apply below_alloc | apply pw_below_drewN | apply below_drew1) | exact HB.out)⟩

end Go.Proofs.YtbjlpdfhjapbkaaDoor.LDuk
