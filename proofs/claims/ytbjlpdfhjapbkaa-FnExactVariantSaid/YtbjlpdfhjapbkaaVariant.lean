/- Contract of impl.Variant: of a key of 16 bytes XORed with the use's block; empty for others. Conditions: the key reads as a list of bytes, of at most 2^20. -/
import Derived.Test.YtbjlpdfhjapbkaaMask
namespace Go.Proofs.Ytbjlpdfhjapbkaa
open Go.RowKit Go.Proofs.YtbjlpdfhjapbkaaW.PrintWords Go.Proofs.YtbjlpdfhjapbkaaW.PrintLast Go.Proofs.YtbjlpdfhjapbkaaW.PrintMore
set_option linter.unusedVariables false

def variantL (l : List Int) (u : Int) : List Int := if l.length = 16 ∧ u = 1 then maskL 0 [0, 0, 0, 0, 0, 0, 0, 255] l else if l.length = 16 ∧ u = 2 then maskL 0 [0, 0, 0, 0, 0, 0, 255, 0] l else []
def impl_Variant.f (l0 : List Int) (a1 : Int) : Option (List Int) := if l0.length ≤ 1048576 then some (variantL l0 a1) else none

theorem empty_R (w : World) (o : Obj) (ho : o = .cells #[] 5) : Kd.R (Kd.int .u8) 5 (w.alloc o) w.heap.size (fun _ => True) (.slice (some ⟨w.heap.size, 0, none⟩) 0 0) [] := by
  subst ho
  have h0 : Blk (w.alloc (Obj.cells #[] 5)) w.heap.size .u8 5 [] := by
    have := Blk.new w .u8 5 []
    simpa [nums] using this
  exact h0.R (Nat.le_refl _) rfl (by omega)

set_option maxHeartbeats 1000000 in
theorem impl_Variant.calls (A0 : Option Addr) (c0 : Nat) (l0 : List Int) (a1 : Int) (r : List Int) (w : World) (hr0 : Kd.C (Kd.int .u8) w A0 l0.length l0) (hc0 : l0.length ≤ c0) (h : impl_Variant.f l0 a1 = some r) :
    Calls Try.prog 13 #[.slice A0 l0.length c0, .int .i64 a1] w fun e w' => ∃ v0_ : Value, e = .returned (v0_) ∧ Kd.R (Kd.int .u8) 5 w' w.heap.size (fun _ => True) v0_ r ∧ Below w.heap.size w w' := by
  unfold impl_Variant.f at h
  have hl : l0.length ≤ 1048576 := by
    by_cases hl : l0.length ≤ 1048576
    · exact hl
    · rw [if_neg hl] at h; cases h
  rw [if_pos hl] at h
  obtain rfl := Option.some.inj h
  clear h
  have C1 := Aside0.mk (impl_masked.calls A0 c0 l0 [0, 0, 0, 0, 0, 0, 0, 255] w hr0 hc0 hl rfl)
  have C2 := Aside0.mk (impl_masked.calls A0 c0 l0 [0, 0, 0, 0, 0, 0, 255, 0] w hr0 hc0 hl rfl)
  clear hr0
  obtain ⟨n, hn⟩ : ∃ n, n = l0.length := ⟨_, rfl⟩
  have Hn := Aside0.mk hn
  rw [← hn] at hc0 hl C1 C2 ⊢
  clear hn
  by_cases h16 : n = 16
  · subst h16
    by_cases h1 : a1 = 1
    · subst h1
      have E := Aside0.mk (show variantL l0 1 = maskL 0 [0, 0, 0, 0, 0, 0, 0, 255] l0 by unfold variantL; rw [if_pos ⟨Hn.out.symm, rfl⟩])
      go_enter Try.func13, Try.ntmps13
      go_wp2_with (go_at_call 16; refine C1.out.mono ?_; rintro e w' ⟨v, rfl, hR, hB⟩; have HR := Aside0.mk hR; have HB := Aside0.mk hB; clear hR hB)
      go_ret
      rw [E.out]
      exact ⟨_, rfl, HR.out, HB.out⟩
    · by_cases h2 : a1 = 2
      · subst h2
        have E := Aside0.mk (show variantL l0 2 = maskL 0 [0, 0, 0, 0, 0, 0, 255, 0] l0 by unfold variantL; rw [if_neg (by omega), if_pos ⟨Hn.out.symm, rfl⟩])
        go_enter Try.func13, Try.ntmps13
        go_wp2_with (go_at_call 16; refine C2.out.mono ?_; rintro e w' ⟨v, rfl, hR, hB⟩; have HR := Aside0.mk hR; have HB := Aside0.mk hB; clear hR hB)
        go_ret
        rw [E.out]
        exact ⟨_, rfl, HR.out, HB.out⟩
      · have E := Aside0.mk (show variantL l0 a1 = [] by unfold variantL; rw [if_neg (by omega), if_neg (by omega)])
        have b1 : (a1 == 1) = false := by simpa using h1
        have b2 : (a1 == 2) = false := by simpa using h2
        go_enter Try.func13, Try.ntmps13
        go_wp2_with fail
        go_ret
        rw [E.out]
        exact ⟨_, rfl, empty_R _ _ rfl, (Below.refl _ _).alloc (Nat.le_refl _) _⟩
  · have E := Aside0.mk (show variantL l0 a1 = [] by unfold variantL; have := Hn.out; rw [if_neg (by omega), if_neg (by omega)])
    have b1 : ((n : Int) != 16) = true := by rw [bne_iff_ne]; omega
    go_enter Try.func13, Try.ntmps13
    go_wp2_with fail
    go_ret
    rw [E.out]
    exact ⟨_, rfl, empty_R _ _ rfl, (Below.refl _ _).alloc (Nat.le_refl _) _⟩
end Go.Proofs.Ytbjlpdfhjapbkaa
