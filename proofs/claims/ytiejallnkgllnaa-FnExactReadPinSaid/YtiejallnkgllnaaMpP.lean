/- The contracts of spec.MakePin and impl.MakePin in the print's shape: what they answer, plainly. Conditions stand in the functions '.f': bytes, texts below 2^30 bytes. -/
import Derived.Test.YtiejallnkgllnaaMpT
namespace Go.Proofs.Ytiejallnkgllnaa
open Go.RowKit Go.Proofs.YtiejallnkgllnaaW.PrintWords Go.Proofs.YtiejallnkgllnaaW.PrintLast Go.Proofs.YtiejallnkgllnaaW.PrintMore Go.Proofs.Ytiejallnkgllnaa.D
set_option linter.unusedVariables false
def bytesB (l : List Int) : Bool := l.all fun x => decide (0 ≤ x) && decide (x ≤ 255)
theorem bytesB_of {l : List Int} (h : bytesB l = true) : Bytes l := fun x hx => by
  have := List.all_eq_true.1 h x hx
  simp only [Bool.and_eq_true, decide_eq_true_eq] at this
  exact this
theorem bytesB_mk {l : List Int} (h : Bytes l) : bytesB l = true := List.all_eq_true.2 fun x hx => by
  have := h x hx
  simp only [Bool.and_eq_true, decide_eq_true_eq]
  exact this
theorem digOk_of {s : ByteArray} {lo hi : Int} (h : digOk s lo hi = true) : allDg s = true ∧ lo ≤ (s.size : Int) ∧ (s.size : Int) ≤ hi := by
  simp only [digOk, Bool.and_eq_true, decide_eq_true_eq] at h
  exact h
def mpOk (f : Int) (pin pan : ByteArray) : Bool := (decide (f = 0) || decide (f = 3)) && (digOk pin 4 12 && digOk pan 13 19)
/-- A PIN block: its code, its bytes, the draws that it took. -/
def mpR (f : Int) (pin pan : ByteArray) (dr : List Int) : Int × List Int × Int :=
  if mpOk f pin pan = true then
    if f = 0 then (0, pinBlk (0 :: (pin.size : Int) :: dgs pin ++ List.replicate (14 - pin.size) 15) pan, 0)
    else if dr.length < 14 - pin.size then (2, [], 0)
    else (0, pinBlk (3 :: (pin.size : Int) :: dgs pin ++ fillL dr (14 - pin.size)) pan, ((14 - pin.size : Nat) : Int))
  else (1, [], 0)
def spec_MakePin.f (a0 : Int) (a1 a2 : ByteArray) (l3 : List Int) : Option (Int × List Int × Int) := if a1.size ≤ 1000000000 ∧ a2.size ≤ 1000000000 ∧ bytesB l3 = true then some (mpR a0 a1 a2 l3) else none
def impl_MakePin.f (a0 : Int) (a1 a2 : ByteArray) (l3 : List Int) : Option (Int × List Int × Int) := if a1.size ≤ 1000000000 ∧ a2.size ≤ 1000000000 ∧ bytesB l3 = true then some (mpR a0 a1 a2 l3) else none
theorem ite_some {p : Prop} [Decidable p] {α : Type} {a b : α} (h : (if p then some a else none) = some b) : p ∧ a = b := by
  by_cases hp : p
  · rw [if_pos hp] at h; exact ⟨hp, Option.some.inj h⟩
  · rw [if_neg hp] at h; cases h
theorem spec_MakePin.calls (a0 : Int) (a1 a2 : ByteArray) (A3 : Option Addr) (c3 : Nat) (l3 : List Int) (r1 : Int) (r2 : List Int) (r3 : Int) (w : World) (hr3 : Kd.C (Kd.int .u8) w A3 l3.length l3) (hc3 : l3.length ≤ c3) (h : spec_MakePin.f a0 a1 a2 l3 = some (r1, r2, r3)) :
    Calls Try.prog 19 #[.int .i64 a0, .string a1, .string a2, .slice A3 l3.length c3] w fun e w' => ∃ v0_ : Value, e = .returned (.agg #[.int .i64 r1, v0_, .int .i64 r3]) ∧ Kd.R (Kd.int .u8) 5 w' w.heap.size (fun _ => True) v0_ r2 ∧ Below w.heap.size w w' := by
  obtain ⟨⟨hs1, hs2, hb⟩, hr⟩ := ite_some h
  have hB := bytesB_of hb
  have bad : ∀ {q}, q = (1, [], 0) → q = (r1, r2, r3) → (Calls Try.prog 19 #[.int .i64 a0, .string a1, .string a2, .slice A3 l3.length c3] w fun e w' => e = .returned (.agg #[.int .i64 1, .slice none 0 0, .int .i64 0]) ∧ Below w.heap.size w w') → Calls Try.prog 19 #[.int .i64 a0, .string a1, .string a2, .slice A3 l3.length c3] w fun e w' => ∃ v0_ : Value, e = .returned (.agg #[.int .i64 r1, v0_, .int .i64 r3]) ∧ Kd.R (Kd.int .u8) 5 w' w.heap.size (fun _ => True) v0_ r2 ∧ Below w.heap.size w w' := by
    intro q h1 h2 hc
    rw [h1] at h2
    simp only [Prod.mk.injEq] at h2
    obtain ⟨rfl, rfl, rfl⟩ := h2
    exact hc.mono fun e w' ⟨he, hw⟩ => ⟨_, he, Kd.R_nil _ _ _ _ _, hw⟩
  unfold mpR at hr
  by_cases hok : mpOk a0 a1 a2 = true
  · rw [if_pos hok] at hr
    simp only [mpOk, Bool.and_eq_true, Bool.or_eq_true, decide_eq_true_eq] at hok
    obtain ⟨hf, h1, h2⟩ := hok
    obtain ⟨d1, l1, u1⟩ := digOk_of h1
    obtain ⟨d2, l2, u2⟩ := digOk_of h2
    by_cases h0 : a0 = 0
    · subst h0
      rw [if_pos rfl] at hr
      simp only [Prod.mk.injEq] at hr
      obtain ⟨rfl, rfl, rfl⟩ := hr
      exact spec_MakePin.f0 a1 a2 A3 l3.length c3 w h1 h2 (by omega) (by omega) (by omega) (by omega) d1 d2
    · obtain rfl : a0 = 3 := by omega
      rw [if_neg h0] at hr
      by_cases hd : l3.length < 14 - a1.size
      · rw [if_pos hd] at hr
        simp only [Prod.mk.injEq] at hr
        obtain ⟨rfl, rfl, rfl⟩ := hr
        exact (spec_MakePin.f3s a1 a2 A3 l3 c3 w hr3 hB hd h1 h2 (by omega) (by omega) (by omega) d1).mono fun e w' ⟨he, hw⟩ => ⟨_, he, Kd.R_nil _ _ _ _ _, hw⟩
      · rw [if_neg hd] at hr
        simp only [Prod.mk.injEq] at hr
        obtain ⟨rfl, rfl, rfl⟩ := hr
        exact spec_MakePin.f3 a1 a2 A3 l3 c3 w hr3 hB (by omega) hr3.2.1 h1 h2 (by omega) (by omega) (by omega) (by omega) d1 d2
  · rw [if_neg hok] at hr
    by_cases hf : a0 = 0 ∨ a0 = 3
    · by_cases h1 : digOk a1 4 12 = true
      · have h2 : digOk a2 13 19 = false := by
          cases h2 : digOk a2 13 19 with
          | false => rfl
          | true => exact absurd (by simp only [mpOk, h1, h2, Bool.and_true, Bool.or_eq_true, decide_eq_true_eq]; exact hf) hok
        exact bad rfl hr (spec_MakePin.bad2 a0 hf a1 a2 A3 l3.length c3 w hs1 hs2 h1 h2)
      · exact bad rfl hr (spec_MakePin.bad1 a0 hf a1 a2 A3 l3.length c3 w hs1 (by simpa using h1))
    · exact bad rfl hr (spec_MakePin.bad0 a0 a1 a2 A3 l3.length c3 w (fun h => hf (.inl h)) (fun h => hf (.inr h)))
theorem impl_MakePin.calls (a0 : Int) (a1 a2 : ByteArray) (A3 : Option Addr) (c3 : Nat) (l3 : List Int) (r1 : Int) (r2 : List Int) (r3 : Int) (w : World) (hr3 : Kd.C (Kd.int .u8) w A3 l3.length l3) (hc3 : l3.length ≤ c3) (h : impl_MakePin.f a0 a1 a2 l3 = some (r1, r2, r3)) :
    Calls Try.prog 20 #[.int .i64 a0, .string a1, .string a2, .slice A3 l3.length c3] w fun e w' => ∃ v0_ : Value, e = .returned (.agg #[.int .i64 r1, v0_, .int .i64 r3]) ∧ Kd.R (Kd.int .u8) 84 w' w.heap.size (fun _ => True) v0_ r2 ∧ Below w.heap.size w w' := by
  obtain ⟨⟨hs1, hs2, hb⟩, hr⟩ := ite_some h
  have hB := bytesB_of hb
  have bad : ∀ {q}, q = (1, [], 0) → q = (r1, r2, r3) → (Calls Try.prog 20 #[.int .i64 a0, .string a1, .string a2, .slice A3 l3.length c3] w fun e w' => e = .returned (.agg #[.int .i64 1, .slice none 0 0, .int .i64 0]) ∧ Below w.heap.size w w') → Calls Try.prog 20 #[.int .i64 a0, .string a1, .string a2, .slice A3 l3.length c3] w fun e w' => ∃ v0_ : Value, e = .returned (.agg #[.int .i64 r1, v0_, .int .i64 r3]) ∧ Kd.R (Kd.int .u8) 84 w' w.heap.size (fun _ => True) v0_ r2 ∧ Below w.heap.size w w' := by
    intro q h1 h2 hc
    rw [h1] at h2
    simp only [Prod.mk.injEq] at h2
    obtain ⟨rfl, rfl, rfl⟩ := h2
    exact hc.mono fun e w' ⟨he, hw⟩ => ⟨_, he, Kd.R_nil _ _ _ _ _, hw⟩
  unfold mpR at hr
  by_cases hok : mpOk a0 a1 a2 = true
  · rw [if_pos hok] at hr
    simp only [mpOk, Bool.and_eq_true, Bool.or_eq_true, decide_eq_true_eq] at hok
    obtain ⟨hf, h1, h2⟩ := hok
    obtain ⟨d1, l1, u1⟩ := digOk_of h1
    obtain ⟨d2, l2, u2⟩ := digOk_of h2
    by_cases h0 : a0 = 0
    · subst h0
      rw [if_pos rfl] at hr
      simp only [Prod.mk.injEq] at hr
      obtain ⟨rfl, rfl, rfl⟩ := hr
      exact impl_MakePin.f0 a1 a2 A3 l3.length c3 w h1 h2 (by omega) (by omega) (by omega) (by omega) d1 d2
    · obtain rfl : a0 = 3 := by omega
      rw [if_neg h0] at hr
      by_cases hd : l3.length < 14 - a1.size
      · rw [if_pos hd] at hr
        simp only [Prod.mk.injEq] at hr
        obtain ⟨rfl, rfl, rfl⟩ := hr
        exact (impl_MakePin.f3s a1 a2 A3 l3 c3 w hr3 hB hd h1 h2 (by omega) (by omega) (by omega) d1).mono fun e w' ⟨he, hw⟩ => ⟨_, he, Kd.R_nil _ _ _ _ _, hw⟩
      · rw [if_neg hd] at hr
        simp only [Prod.mk.injEq] at hr
        obtain ⟨rfl, rfl, rfl⟩ := hr
        exact impl_MakePin.f3 a1 a2 A3 l3 c3 w hr3 hB (by omega) hr3.2.1 h1 h2 (by omega) (by omega) (by omega) (by omega) d1 d2
  · rw [if_neg hok] at hr
    by_cases hf : a0 = 0 ∨ a0 = 3
    · by_cases h1 : digOk a1 4 12 = true
      · have h2 : digOk a2 13 19 = false := by
          cases h2 : digOk a2 13 19 with
          | false => rfl
          | true => exact absurd (by simp only [mpOk, h1, h2, Bool.and_true, Bool.or_eq_true, decide_eq_true_eq]; exact hf) hok
        exact bad rfl hr (impl_MakePin.bad2 a0 hf a1 a2 A3 l3.length c3 w hs1 hs2 h1 h2)
      · exact bad rfl hr (impl_MakePin.bad1 a0 hf a1 a2 A3 l3.length c3 w hs1 (by simpa using h1))
    · exact bad rfl hr (impl_MakePin.bad0 a0 a1 a2 A3 l3.length c3 w (fun h => hf (.inl h)) (fun h => hf (.inr h)))
end Go.Proofs.Ytiejallnkgllnaa
