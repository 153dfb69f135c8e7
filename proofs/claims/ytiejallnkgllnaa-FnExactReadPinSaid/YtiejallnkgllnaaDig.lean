/- Contract of impl.digits: all bytes are digits and the length lies in the bounds. Condition: the string's length is below 2^62. -/
import Derived.Test.YtiejallnkgllnaaArr
import Derived.Laws.RangeAny
namespace Go.Proofs.Ytiejallnkgllnaa
open Go.RowKit Go.Proofs.YtiejallnkgllnaaW.PrintWords Go.Proofs.YtiejallnkgllnaaW.PrintLast Go.Proofs.YtiejallnkgllnaaW.PrintMore
set_option linter.unusedVariables false

def dgB (b : UInt8) : Bool := decide (48 ≤ b.toNat) && decide (b.toNat ≤ 57)
/-- All of the bytes are digits. -/
def allDg (s : ByteArray) : Bool := s.data.toList.all dgB
def digOk (s : ByteArray) (lo hi : Int) : Bool := allDg s && (decide (lo ≤ (s.size : Int)) && decide ((s.size : Int) ≤ hi))

theorem allDg_at {s : ByteArray} (h : allDg s = true) (i : Nat) (hi : i < s.size) : 48 ≤ (s[i]'hi).toNat ∧ (s[i]'hi).toNat ≤ 57 := by
  have := List.all_eq_true.1 h (s[i]'hi) (Array.getElem_mem_toList (xs := s.data) hi)
  simp only [dgB, Bool.and_eq_true, decide_eq_true_eq] at this
  exact this
theorem allDg_of {s : ByteArray} (h : ∀ i (hi : i < s.size), 48 ≤ (s[i]'hi).toNat ∧ (s[i]'hi).toNat ≤ 57) : allDg s = true := by
  refine List.all_eq_true.2 fun b hb => ?_
  obtain ⟨i, hi, rfl⟩ := List.getElem_of_mem hb
  have := h i (by simpa using hi)
  simp only [dgB, Bool.and_eq_true, decide_eq_true_eq]
  exact this
theorem allDg_not {s : ByteArray} (i : Nat) (hi : i < s.size) (h : ¬ (48 ≤ (s[i]'hi).toNat ∧ (s[i]'hi).toNat ≤ 57)) : allDg s = false := by
  cases he : allDg s with
  | false => rfl
  | true => exact absurd (allDg_at he i hi) h

set_option maxHeartbeats 1000000 in
theorem impl_isDigitRune.yes (n : Int) (w : World) (h0 : 48 ≤ n) (h1 : n ≤ 57) :
    Calls Try.prog 76 #[.int .i32 n] w fun e w' => e = .returned (.bool true) ∧ w' = w := by
  go_enter Try.func76, Try.ntmps76
  go_wp2
  all_goals (go_ret; exact ⟨rfl, rfl⟩)
set_option maxHeartbeats 1000000 in
theorem impl_isDigitRune.no (n : Int) (w : World) (h : n < 48 ∨ 57 < n) :
    Calls Try.prog 76 #[.int .i32 n] w fun e w' => e = .returned (.bool false) ∧ w' = w := by
  rcases h with h | h
  · go_enter Try.func76, Try.ntmps76
    go_wp2
    all_goals (go_ret; exact ⟨rfl, rfl⟩)
  · have h2 : 48 ≤ n := by omega
    have h3 : decide (n ≤ 57) = false := decide_eq_false (by omega)
    go_enter Try.func76, Try.ntmps76
    go_wp2
    all_goals (go_ret; exact ⟨rfl, rfl⟩)

theorem allDg_true {s : ByteArray} {p : Nat} (h : ∀ i (hi : i < s.size), i < p → 48 ≤ (s[i]'hi).toNat ∧ (s[i]'hi).toNat ≤ 57) (hp : ¬ p < s.size) : allDg s = true := allDg_of fun i hi => h i hi (by omega)
set_option maxHeartbeats 2000000 in
theorem impl_digits.calls (s : ByteArray) (lo hi : Int) (w : World) (hs : s.size ≤ 4611686018427387904) :
    Calls Try.prog 49 #[.string s, .int .i64 lo, .int .i64 hi] w fun e w' => e = .returned (.bool (digOk s lo hi)) ∧ Below w.heap.size w w' := by
  have HS := Aside0.mk hs
  clear hs
  go_enter Try.func49, Try.ntmps49
  go_wp2_with fail
  go_loopw [6, 8, 11, 12] (fun v6 v8 v11 v12 w' => ∃ pos : Nat, w' = w.iter s pos ∧ pos ≤ s.size ∧ Aside0 (∀ i (hi : i < s.size), i < pos → 48 ≤ (s[i]'hi).toNat ∧ (s[i]'hi).toNat ≤ 57)) (fun _ _ _ _ w' => s.size - w'.iterPos w.heap.size)
  case atStart => exact ⟨0, rfl, Nat.zero_le _, ⟨fun i hi h => absurd h (by omega)⟩⟩
  case round =>
    obtain ⟨pos, rfl, hle, HD⟩ := hrel
    by_cases hp : pos < s.size
    · by_cases hd : 48 ≤ (s[pos]'hp).toNat ∧ (s[pos]'hp).toNat ≤ 57
      · have hnx : ∀ ty, (Instr.next (.pointer (some ⟨w.heap.size, 0, none⟩)) true ty).run Try.prog (w.iter s pos) = _ := fun ty => run_next_ascii w s pos ty hp (by omega)
        have HD' : Aside0 (∀ i (hi : i < s.size), i < pos + 1 → 48 ≤ (s[i]'hi).toNat ∧ (s[i]'hi).toNat ≤ 57) := ⟨fun i hi h => by
          rcases Nat.lt_or_ge i pos with h' | h'
          · exact HD.out i hi h'
          · obtain rfl : i = pos := by omega
            exact hd⟩
        obtain ⟨c, hc⟩ : ∃ c, c = (s[pos]'hp).toNat := ⟨_, rfl⟩
        rw [← hc] at hd hnx
        obtain ⟨hd0, hd1⟩ := hd
        clear hc HD
        go_wp2_with (go_at_call 76; refine (impl_isDigitRune.yes _ _ (by omega) (by omega)).mono ?_; rintro e w1 ⟨rfl, rfl⟩)
        go_roundw
        case rel => exact ⟨pos + 1, rfl, by omega, HD'⟩
        case measure => simp; omega
      · have hnx : ∀ ty, (Instr.next (.pointer (some ⟨w.heap.size, 0, none⟩)) true ty).run Try.prog (w.iter s pos) = _ := fun ty => run_next_any w s pos ty hp
        have hrune : ((Utf8.decode s pos).1 : Int) < 48 ∨ 57 < ((Utf8.decode s pos).1 : Int) := by
          by_cases ha : (s[pos]'hp).toNat < 128
          · rw [decode_ascii s pos hp ha]
            simp only
            omega
          · have := (decode_high s pos hp (by omega)).1
            omega
        have he : Aside0 (digOk s lo hi = false) := ⟨by unfold digOk; rw [allDg_not pos hp hd]; rfl⟩
        obtain ⟨c, hc⟩ : ∃ c, c = Utf8.decode s pos := ⟨_, rfl⟩
        rw [← hc] at hrune hnx
        clear hc hd HD
        have HR := Aside0.mk hrune
        clear hrune
        go_wp2_with (go_at_call 76; refine (impl_isDigitRune.no _ _ HR.out).mono ?_; rintro e w1 ⟨rfl, rfl⟩)
        go_ret
        rw [he.out]
        exact ⟨rfl, (Below.refl _ _).alloc (Nat.le_refl _) _⟩
    · have hnx : ∀ ty, (Instr.next (.pointer (some ⟨w.heap.size, 0, none⟩)) true ty).run Try.prog (w.iter s pos) = _ := fun ty => run_next_end w s pos ty hp
      have he : Aside0 (digOk s lo hi = (decide (lo ≤ (s.size : Int)) && decide ((s.size : Int) ≤ hi))) := ⟨by unfold digOk; rw [allDg_true HD.out hp]; rfl⟩
      clear HD hp
      obtain ⟨n, hn⟩ : ∃ n : Int, n = (s.size : Int) := ⟨_, rfl⟩
      rw [← hn] at he
      by_cases h1 : lo ≤ n
      all_goals by_cases h2 : n ≤ hi
      all_goals
        rw [hn] at h1 h2
        go_wp2
        go_ret
        refine ⟨?_, (Below.refl _ _).alloc (Nat.le_refl _) _⟩
        rw [he.out, hn]
        simp [h1, h2]
end Go.Proofs.Ytiejallnkgllnaa
