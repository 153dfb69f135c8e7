/- Contract of spec.DrawDukptKey. Condition: the drawing functions answer (rounds enough). -/
import Derived.Test.YtbjlpdfhjapbkaaDoorLDukT
namespace Go.Proofs.YtbjlpdfhjapbkaaDoor
open Go.RowKit Go.Proofs.YtbjlpdfhjapbkaaDoorW.PrintWords Go.Proofs.YtbjlpdfhjapbkaaDoorW.PrintLast Go.Proofs.YtbjlpdfhjapbkaaDoorW.PrintMore Go.Proofs.YtbjlpdfhjapbkaaDoor.D
set_option linter.unusedVariables false

def spec_DrawDukptKey.f (l0 : List Int) : Option (List Int × List Int) := (LDuk.spec_l3Ksn.f 20 l0 0).bind fun p => (LDuk.spec_l1R_next.f l0 p.2).bind fun q => (LDuk.spec_l1Len.f l0 q.2 16).bind fun n => (LDuk.spec_l1Some.f 60 l0 n.2 n.1).bind fun s => if p.1.length = 10 then some (s.1, if Int.tmod q.1 16 = 15 then p.1.take 9 else p.1) else none
set_option maxHeartbeats 4000000 in
theorem spec_DrawDukptKey.calls (A0 : Option Addr) (c0 : Nat) (l0 : List Int) (r1 r2 : List Int) (w : World) (hr0 : Kd.C (Kd.int .u8) w A0 l0.length l0) (hc0 : l0.length ≤ c0) (h : spec_DrawDukptKey.f l0 = some (r1, r2)) :
    Calls Tryd.prog 33 #[.slice A0 l0.length c0] w fun e w' => ∃ v0_ v1_ : Value, e = .returned (.tuple #[v0_, v1_]) ∧ Kd.R (Kd.int .u8) 5 w' w.heap.size (fun k => some k ≠ v1_.ownBlock) v0_ r1 ∧ Kd.R (Kd.int .u8) 5 w' w.heap.size (fun k => some k ≠ v0_.ownBlock) v1_ r2 ∧ Below w.heap.size w w' := by
  unfold spec_DrawDukptKey.f at h
  obtain ⟨⟨p1, p2⟩, hp, h⟩ := Option.bind_eq_some_iff.1 h
  obtain ⟨⟨q1, q2⟩, hq, h⟩ := Option.bind_eq_some_iff.1 h
  obtain ⟨⟨n1, n2⟩, hn, h⟩ := Option.bind_eq_some_iff.1 h
  obtain ⟨⟨s1, s2⟩, hs, h⟩ := Option.bind_eq_some_iff.1 h
  dsimp only at hq hn hs h
  obtain ⟨h10, h⟩ := of_ite h
  simp only [Prod.mk.injEq] at h
  obtain ⟨rfl, h2⟩ := h
  have HP := Aside0.mk hp
  have HQ := Aside0.mk hq
  have HN := Aside0.mk hn
  have HS := Aside0.mk hs
  have HR0 := Aside0.mk hr0
  have H10 := Aside0.mk h10
  clear hp hq hn hs hr0 h10
  by_cases c15 : Int.tmod q1 16 = 15
  all_goals
    first | rw [if_pos c15] at h2 | rw [if_neg c15] at h2
    have b15 : (Int.tmod q1 16 == 15) = decide (Int.tmod q1 16 = 15) := rfl
    first | rw [decide_eq_true c15] at b15 | rw [decide_eq_false c15] at b15
    subst h2
    clear c15
    go_enter Tryd.func33, Tryd.ntmps33
    go_wp2_with (first
      | (go_at_call 60; go_must (refine (LDuk.spec_l3Ksn.calls 20 w.heap.size l0 0 p1 p2 w _ ?s1 ?s2 HP.out).mono ?_; (case s1 => exact LDuk.IsS65.new w w A0 c0 l0 0 (Below.refl _ _) HR0.out); (case s2 => exact (Below.refl _ _).alloc (Nat.le_refl _) _); rintro e w1 ⟨v1, rfl, hR, hI, hB, hK⟩; have HI := Aside0.mk hI; have HB := Aside0.mk hB; have HK := Aside0.mk (Kd.R_mono (ok' := fun k => k ≠ w.heap.size) (Kd.R_bound (Kd.R_lower hR (show w.heap.size + 1 ≤ _ by simp))) (fun k hk => by have := hk.2.1; omega)); clear hR hI hB hK; obtain ⟨Ak, ck, ek⟩ := Kd.R_slice HK.out; subst ek; obtain ⟨i011, hi011, _, hsz11, _⟩ := info_parts info5; have hcut := cut_to (P := Tryd.prog) 22 5 .i64 Tryd.underlying22 hi011 Ak p1.length ck 9 (by omega) (by have := H10.out; omega) (Kd.R_reads' HK.out).2.1; clear hi011 hsz11))
      | (go_at_call 61; go_must (refine (LDuk.spec_l1R_next.calls w.heap.size l0 p2 q1 q2 w _ HI.out HB.out HQ.out).mono ?_; rintro e w2 ⟨rfl, hI, hB, hK⟩; have HK2 := Aside0.mk (Kd.R_keep HK.out hK (fun k hk => hk)); clear HI HB HK; have HI := Aside0.mk hI; have HB := Aside0.mk hB; have HK := HK2; clear HK2 hI hB hK))
      | (go_at_call 63; go_must (refine (LDuk.spec_l1Len.calls w.heap.size l0 q2 16 n1 n2 w _ HI.out HB.out HN.out).mono ?_; rintro e w3 ⟨rfl, hI, hB, hK⟩; have HK2 := Aside0.mk (Kd.R_keep HK.out hK (fun k hk => hk)); clear HI HB HK; have HI := Aside0.mk hI; have HB := Aside0.mk hB; have HK := HK2; clear HK2 hI hB hK))
      | (go_at_call 62; go_must (refine (LDuk.spec_l1Some.calls 60 w.heap.size l0 n2 n1 s1 s2 w _ HI.out HB.out HS.out).mono ?_; rintro e w4 ⟨v4, rfl, hR, hI, hB, hK⟩; have HK2 := Aside0.mk (Kd.R_mono (Kd.R_keep (Kd.R_bound HK.out) hK (fun _ h => h.1)) (ok' := fun k => some k ≠ v4.ownBlock) (fun k h he => by have := Kd.R_base hR k he.symm; have := h.2.2.1; omega)); have HS4 := Aside0.mk (Kd.R_lower (Kd.R_new' hR (Kd.R_lt HK.out)) HB.out.size); clear HI HB HK; have HB := Aside0.mk hB; have HK := HK2; clear HK2 hR hI hB hK)))
    go_ret2
    first
      | exact ⟨_, _, rfl, Kd.R_mono HS4.out (fun _ h => h.2), Kd.R_lower HK.out (Nat.le_succ _), HB.out⟩
      | exact ⟨_, _, rfl, Kd.R_mono HS4.out (fun k h => (show some k ≠ (Value.slice Ak 9 ck).ownBlock from by have h2 := h.2; cases Ak <;> exact h2)), Kd.R_lower (Kd.R_take (m := (9 : Int).toNat) HK.out (by have := H10.out; omega)) (Nat.le_succ _), HB.out⟩
end Go.Proofs.YtbjlpdfhjapbkaaDoor
