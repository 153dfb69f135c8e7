/- The law FnExactReadPin's plain statement: the printed law answers true. Conditions: numbers and texts within Go's bounds. -/
import Derived.Test.YtiejallnkgllnaaLPin5
import Derived.Test.YtiejallnkgllnaaPinB
import Derived.Test.YtiejallnkgllnaaPinN
namespace Go.Proofs.Ytiejallnkgllnaa.Pure
open Go.RowKit Go.Proofs.Ytiejallnkgllnaa.LPin Go.Proofs.YtiejallnkgllnaaW.PrintWords Go.Proofs.YtiejallnkgllnaaW.PrintLast Go.Proofs.Ytiejallnkgllnaa Go.Proofs.Ytiejallnkgllnaa.D
open Go.Proofs.Ytiejallnkgllnaa.B (xorL xorL_length)
set_option linter.unusedVariables false
theorem rbyte_of_wf {x : Int} (h : (Lit.int .u8 x).wf = true) : 0 ≤ x ∧ x ≤ 255 := by
  have hmin : IntKind.u8.min = 0 := rfl
  have hmax : IntKind.u8.max = 255 := rfl
  simp only [Lit.wf, Bool.and_eq_true, decide_eq_true_eq] at h
  omega
theorem pack_nib : ∀ b : List Int, packL (nibL b) = b
  | [] => rfl
  | x :: b => by
    have : nibL (x :: b) = x / 16 :: x % 16 :: nibL b := rfl
    rw [this, packL, pack_nib b]
    congr 1
    omega
theorem nib_pack : ∀ (n : Nat) (ds : List Int), ds.length = 2 * n → Nibs ds → nibL (packL ds) = ds
  | 0, [], _, _ => rfl
  | n + 1, a :: b :: ds, h, hn => by
    have ha := hn a (by simp)
    have hb := hn b (by simp)
    have i := nib_pack n ds (by simp at h; omega) fun x hx => hn x (by simp [hx])
    rw [packL]
    have : nibL ((16 * a + b) :: packL ds) = (16 * a + b) / 16 :: (16 * a + b) % 16 :: nibL (packL ds) := rfl
    rw [this, i]
    congr 1
    · omega
    · congr 1
      omega
theorem rpD_eq (b : List Int) (pan : ByteArray) (hl : b.length = 8) (hb : Bytes b) (hp : allDg pan = true) (h13 : 13 ≤ pan.size) : rpD b pan = xorL (nibL b) (accD pan) ∧ Nibs (xorL (nibL b) (accD pan)) ∧ (xorL (nibL b) (accD pan)).length = 16 := by
  have ha := accD_length pan h13
  have hna := accD_nibs hp
  have hnb := nibL_nibs b hb
  have hnl : (nibL b).length = 16 := by rw [nibL_length, hl]
  obtain ⟨i1, i2⟩ := packL_xor 8 (nibL b) (accD pan) hnl ha hnb hna
  have i3 : (xorL (nibL b) (accD pan)).length = 16 := by rw [xorL_length _ _ (by omega), hnl]
  refine ⟨?_, i2, i3⟩
  rw [rpD, outN_pack _ ha hna]
  have e : xorL b (packL (accD pan)) = packL (xorL (nibL b) (accD pan)) := by rw [i1, pack_nib]
  rw [e, nib_pack 8 _ i3 i2]
/-- The block's digits. -/
theorem nib_loop (x0 : Int) (x2 : ByteArray) (b : List Int) (hb : Bytes b) (hl : b.length = 8) (c : Int) (s : ByteArray) (d : Nat) : ∀ (k i : Nat), i ≤ 8 → 8 - i = d → d < k →
    spec_ReadPin.l0 k x0 x2 (nibL (b.take i)) b 8 (i : Int) c s = spec_ReadPin.l0 (k - d) x0 x2 (nibL b) b 8 8 c s := by
  induction d with
  | zero =>
    intro k i hi hd hk
    obtain rfl : i = 8 := by omega
    rw [List.take_of_length_le (by omega)]
    rfl
  | succ d ih =>
    intro k i hi hd hk
    obtain ⟨k, rfl⟩ : ∃ m, k = m + 1 := ⟨k - 1, by omega⟩
    have hlt : i < b.length := by omega
    have hby := hb _ (List.getElem_mem hlt)
    rw [spec_ReadPin.l0, if_pos (by omega), if_pos (by omega), if_pos (by omega), Option.bind_some, if_pos (by rw [nibL_length]; simp; omega), w64_succ (by omega)]
    have e : nibL (b.take i) ++ [rd b (i : Int) / 16, Go.bits .and .u8 (rd b (i : Int)) 15] = nibL (b.take (i + 1)) := by
      rw [take_nth b i hlt, nibL_snoc, rd_nth, nth_at b i hlt, and15_of _ hby]
    rw [e, ih k (i + 1) (by omega) (by omega) (by omega)]
    congr 1
    omega
/-- The text of the first digits. -/
def S (y : List Int) (n i : Nat) : ByteArray := strOfNums ((y.take (min i n)).map hexc)
theorem S_size (y : List Int) (n i : Nat) : (S y n i).size ≤ i := by
  show (strOfNums _).data.size ≤ i
  unfold strOfNums
  simp
  omega
theorem S_step (y : List Int) (n i : Nat) (hi : i < n) (hy : i < y.length) (h9 : 0 ≤ nth y i ∧ nth y i ≤ 9) : S y n i ++ strOfNums [(48 + nth y i) % 256] = S y n (i + 1) := by
  unfold S
  rw [Nat.min_eq_left (by omega), Nat.min_eq_left (by omega), take_nth y i hy, List.map_append]
  have : hexc (nth y i) = (48 + nth y i) % 256 := by unfold hexc; rw [if_pos (by omega)]; omega
  rw [List.map_cons, List.map_nil, this]
  unfold strOfNums
  refine ByteArray.ext ?_
  simp
theorem pin_loop (f n : Int) (hf : f = 0 ∨ f = 3) (hn : 4 ≤ n ∧ n ≤ 12) (y : List Int) (hy : y.length = 14) (hN : Nibs y) (d : Nat) : ∀ (k i : Nat), i ≤ 14 → 14 - i = d → 2 * d < k →
    ∃ r, spec_ReadPin.l1 k f n (S y n.toNat i) y 14 (i : Int) 1 ⟨#[]⟩ = some r ∧ ((∀ j, i ≤ j → j < 14 → okAt f n j (nth y j) = true) → r = (0, S y n.toNat 14)) ∧ (∀ j, i ≤ j → j < 14 → okAt f n j (nth y j) = false → r = (1, ⟨#[]⟩)) := by
  induction d with
  | zero =>
    intro k i hi hd hk
    obtain ⟨k, rfl⟩ : ∃ m, k = m + 1 := ⟨k - 1, by omega⟩
    obtain rfl : i = 14 := by omega
    refine ⟨_, by rw [spec_ReadPin.l1, if_neg (by omega)], fun _ => rfl, fun j h1 h2 => by omega⟩
  | succ d ih =>
    intro k i hi hd hk
    obtain ⟨k, rfl⟩ : ∃ m, k = m + 1 + 1 := ⟨k - 2, by omega⟩
    have hlt : i < y.length := by omega
    have hv := hN.at i hlt
    obtain ⟨v, hve⟩ : ∃ v, v = nth y i := ⟨_, rfl⟩
    have hvr : rd y (i : Int) = v := by rw [rd_nth, hve]
    rw [← hve] at hv
    have good : okAt f n i v = true → ∀ {q}, q = spec_ReadPin.l1 k f n (S y n.toNat (i + 1)) y 14 ((i + 1 : Nat) : Int) 1 ⟨#[]⟩ →
        ∃ r, q = some r ∧ ((∀ j, i ≤ j → j < 14 → okAt f n j (nth y j) = true) → r = (0, S y n.toNat 14)) ∧ (∀ j, i ≤ j → j < 14 → okAt f n j (nth y j) = false → r = (1, ⟨#[]⟩)) := by
      intro hok q hq
      obtain ⟨r, h1, h2, h3⟩ := ih k (i + 1) (by omega) (by omega) (by omega)
      refine ⟨r, hq.trans h1, fun h => h2 fun j a b => h j (by omega) b, fun j a b hj => ?_⟩
      by_cases hij : j = i
      · subst hij; rw [← hve, hok] at hj; cases hj
      · exact h3 j (by omega) b hj
    have bad : okAt f n i v = false → ∀ {q}, q = some ((1 : Int), (⟨#[]⟩ : ByteArray)) →
        ∃ r, q = some r ∧ ((∀ j, i ≤ j → j < 14 → okAt f n j (nth y j) = true) → r = (0, S y n.toNat 14)) ∧ (∀ j, i ≤ j → j < 14 → okAt f n j (nth y j) = false → r = (1, ⟨#[]⟩)) := by
      intro hok q hq
      exact ⟨_, hq, fun h => absurd (h i (by omega) (by omega)) (by rw [← hve, hok]; decide), fun _ _ _ _ => rfl⟩
    rw [spec_ReadPin.l1, if_pos (by omega), if_pos (by omega), if_pos (by omega), hvr]
    by_cases hin : (i : Int) < n
    · rw [if_pos hin]
      by_cases h9 : v ≤ 9
      · refine good (by unfold okAt; rw [if_pos hin]; exact decide_eq_true h9) ?_
        rw [spec_ReadPin.j4, if_neg (by simp; omega), if_pos hin, Option.bind_some, hve, S_step y _ i (by omega) hlt (by omega), if_pos, w64_succ (by omega)]
        have h1 := S_size y n.toNat i
        show (S y n.toNat i).size + (strOfNums [_]).data.size ≤ _
        unfold strOfNums
        simp
        omega
      · refine bad (by unfold okAt; rw [if_pos hin]; exact decide_eq_false h9) ?_
        rw [spec_ReadPin.j4, if_pos (by simp; omega)]
    · rw [if_neg hin]
      have hS : S y n.toNat i = S y n.toNat (i + 1) := by unfold S; rw [Nat.min_eq_right (by omega), Nat.min_eq_right (by omega)]
      by_cases h0 : f = 0
      · by_cases h15 : v = 15
        · refine good (by unfold okAt; rw [if_neg hin, if_pos h0]; exact decide_eq_true h15) ?_
          rw [spec_ReadPin.j4, if_neg (by simp), if_neg hin, if_pos h0, if_pos h15, if_neg (by omega), hS, w64_succ (by omega)]
        · refine bad (by unfold okAt; rw [if_neg hin, if_pos h0]; exact decide_eq_false h15) ?_
          rw [spec_ReadPin.j4, if_neg (by simp), if_neg hin, if_pos h0, if_neg h15]
      · by_cases h10 : v < 10
        · refine bad (by unfold okAt; rw [if_neg hin, if_neg h0]; exact decide_eq_false (by omega)) ?_
          rw [spec_ReadPin.j4, if_neg (by simp), if_neg hin, if_neg h0, if_pos h10]
        · refine good (by unfold okAt; rw [if_neg hin, if_neg h0]; exact decide_eq_true (by omega)) ?_
          rw [spec_ReadPin.j4, if_neg (by simp), if_neg hin, if_neg h0, if_neg h10, hS, w64_succ (by omega)]
theorem nth_drop2 (l : List Int) (i : Nat) : nth (l.drop 2) i = nth l (2 + i) := by unfold nth; simp
theorem readPin_j2 (f : Int) (hf : f = 0 ∨ f = 3) (D : List Int) (hl : D.length = 16) (hN : Nibs D) (k : Nat) (hk : 40 < k) (h0 : nth D 0 = f) (hn : 4 ≤ nth D 1) :
    spec_ReadPin.j2 k f D (nth D 1) (decide (nth D 1 > 12)) 1 ⟨#[]⟩ = some (if rcOk f D = true then (0, pinS D) else (1, ⟨#[]⟩)) := by
  obtain ⟨k, rfl⟩ : ∃ m, k = m + 1 := ⟨k - 1, by omega⟩
  by_cases h12 : nth D 1 ≤ 12
  · rw [spec_ReadPin.j2, if_neg (by simp; omega), if_pos (by omega), Option.bind_some]
    have hdl : (D.drop 2).length = 14 := by simp; omega
    obtain ⟨r, h1, h2, h3⟩ := pin_loop f (nth D 1) hf ⟨hn, h12⟩ (D.drop 2) hdl (hN.drop 2) 14 k 0 (by omega) rfl (by omega)
    have hS : S (D.drop 2) (nth D 1).toNat 0 = ⟨#[]⟩ := by unfold S; rw [Nat.zero_min]; rfl
    rw [hS] at h1
    rw [hdl]
    refine h1.trans ?_
    congr 1
    by_cases hr : rcOk f D = true
    · rw [if_pos hr]
      refine (h2 fun j _ hj => ?_).trans ?_
      · have hr := hr
        simp only [rcOk, Bool.and_eq_true] at hr
        rw [nth_drop2]
        exact List.all_eq_true.1 hr.2 j (List.mem_range.2 hj)
      · unfold S pinS
        rw [Nat.min_eq_right (by omega)]
    · rw [if_neg hr]
      by_cases hall : ∀ j, j < 14 → okAt f (nth D 1) j (nth D (2 + j)) = true
      · exact absurd (rcOk_all h0 hn h12 hall) hr
      · have : ∃ j, j < 14 ∧ okAt f (nth D 1) j (nth D (2 + j)) = false := by
          apply Classical.byContradiction
          intro hno
          refine hall fun j hj => ?_
          cases hq : okAt f (nth D 1) j (nth D (2 + j)) with
          | true => rfl
          | false => exact absurd ⟨j, hj, hq⟩ hno
        obtain ⟨j, hj, hq⟩ := this
        exact h3 j (Nat.zero_le _) hj (by rw [nth_drop2]; exact hq)
  · rw [spec_ReadPin.j2, if_pos (by simp; omega), if_neg]
    rw [rcOk_head fun x => h12 x.2.2]
    decide
theorem readPin_eq (f : Int) (b : List Int) (pan : ByteArray) (hb : Bytes b) (hm : pan.size ≤ 1000000000) (hbl : b.length ≤ 1000000000) (k : Nat) (hk : pan.size + 100 < k) : spec_ReadPin.f k f b pan = some (rpR f b pan) := by
  have no : ∀ k, 0 < k → spec_ReadPin.j0 k f b pan true 1 ⟨#[]⟩ = some (1, ⟨#[]⟩) := fun k hk => by
    obtain ⟨k, rfl⟩ : ∃ m, k = m + 1 := ⟨k - 1, by omega⟩
    rw [spec_ReadPin.j0, if_pos rfl]
  have key : (f = 0 ∨ f = 3) → ((spec_l4GoodPan.f k pan).bind fun t => (if t = true then (spec_ReadPin.j0 k f b pan ((b.length : Int) != 8) 1 (⟨#[]⟩ : ByteArray)) else (spec_ReadPin.j0 k f b pan true 1 (⟨#[]⟩ : ByteArray)))) = some (rpR f b pan) := by
    intro hf
    rw [goodPan_eq pan hm k (by omega), Option.bind_some]
    by_cases h2 : digOk pan 13 19 = true
    · rw [if_pos h2]
      by_cases h8 : b.length = 8
      · obtain ⟨d2, u2, v2⟩ := digOk_of h2
        obtain ⟨e1, e2, e3⟩ := rpD_eq b pan h8 hb d2 (by omega)
        obtain ⟨k, rfl⟩ : ∃ m, k = m + 1 := ⟨k - 1, by omega⟩
        have hnl : (nibL b).length = 16 := by rw [nibL_length, h8]
        rw [spec_ReadPin.j0, if_neg (by simp; omega)]
        have hl := nib_loop f pan b hb h8 1 ⟨#[]⟩ 8 k 0 (by omega) rfl (by omega)
        have hz : nibL (b.take 0) = [] := rfl
        rw [hz] at hl
        have h8i : (b.length : Int) = 8 := by omega
        rw [h8i]
        refine hl.trans ?_
        obtain ⟨k', hk'⟩ : ∃ m, k - 8 = m + 1 := ⟨k - 9, by omega⟩
        rw [hk', spec_ReadPin.l0, if_neg (by omega)]
        have hacc : spec_l4Account.f pan = some (accD pan) := by rw [spec_l4Account.f, if_pos ⟨by omega, by omega⟩, accS_eq pan d2]
        rw [hacc, Option.bind_some, xor_eq (nibL b) (accD pan) (by rw [hnl, accD_length pan (by omega)]; exact Nat.le_refl _) (by omega) k' (by omega), Option.bind_some, ← e1]
        rw [← e1] at e2 e3
        obtain ⟨D, hD⟩ : ∃ D, D = rpD b pan := ⟨_, rfl⟩
        unfold rpR
        rw [← hD] at e2 e3 ⊢
        have n0 := e2.at 0 (by omega)
        have n1 := e2.at 1 (by omega)
        have r0 : rd D 0 = nth D 0 := rd_nth D 0
        have r1 : rd D 1 = nth D 1 := rd_nth D 1
        rw [if_pos (by omega), if_pos (by omega), r0, r1, w64_in (by omega), w64_in (by omega)]
        have fin : ∀ {p}, p = some (if rcOk f D = true then ((0 : Int), pinS D) else (1, ⟨#[]⟩)) → p = some (if (f = 0 ∨ f = 3) ∧ digOk pan 13 19 = true ∧ b.length = 8 ∧ rcOk f D = true then ((0 : Int), pinS D) else (1, ⟨#[]⟩)) := by
          intro p hp
          rw [hp]
          by_cases hr : rcOk f D = true
          · rw [if_pos hr, if_pos ⟨hf, h2, h8, hr⟩]
          · rw [if_neg hr, if_neg fun x => hr x.2.2.2]
        have bad2 : ¬ (nth D 0 = f ∧ 4 ≤ nth D 1 ∧ nth D 1 ≤ 12) → spec_ReadPin.j2 k' f D (nth D 1) true 1 ⟨#[]⟩ = some (if rcOk f D = true then ((0 : Int), pinS D) else (1, ⟨#[]⟩)) := by
          intro hno
          obtain ⟨k', rfl⟩ : ∃ m, k' = m + 1 := ⟨k' - 1, by omega⟩
          rw [spec_ReadPin.j2, if_pos rfl, if_neg (by rw [rcOk_head hno]; decide)]
        by_cases hd0 : nth D 0 = f
        · rw [if_pos hd0]
          by_cases h4 : nth D 1 < 4
          · rw [if_pos h4]
            exact fin (bad2 fun x => by omega)
          · rw [if_neg h4]
            exact fin (readPin_j2 f hf D e3 e2 k' (by omega) hd0 (by omega))
        · rw [if_neg hd0]
          exact fin (bad2 fun x => hd0 x.1)
      · have : ((b.length : Int) != 8) = true := by rw [bne_iff_ne]; omega
        rw [this, no k (by omega), rpR, if_neg fun x => h8 x.2.2.1]
    · rw [if_neg h2, no k (by omega), rpR, if_neg fun x => h2 x.2.1]
  unfold spec_ReadPin.f
  by_cases h0 : f = 0
  · rw [if_pos h0]; exact key (.inl h0)
  · rw [if_neg h0]
    by_cases h3 : f = 3
    · rw [if_pos h3]; exact key (.inr h3)
    · rw [if_neg h3, no k (by omega), rpR, if_neg fun x => by rcases x.1 with y | y; exact h0 y; exact h3 y]
theorem FnExactReadPin : laws_FnExactReadPin.Pure := by
  intro a0 l1 a2 h0 hm hl hw h2
  have hb : Bytes l1 := fun x hx => rbyte_of_wf (hw x hx)
  refine ⟨l1.length + a2.size + 200, ?_⟩
  obtain ⟨k, hk⟩ : ∃ k, k = l1.length + a2.size + 200 := ⟨_, rfl⟩
  rw [← hk]
  unfold laws_FnExactReadPin.f
  by_cases hb1 : (l1.length : Int) > 1048576
  · rw [if_pos hb1]
  rw [if_neg hb1]
  by_cases hb2 : (a2.size : Int) > 1048576
  · rw [if_pos hb2]
  rw [if_neg hb2]
  have ht : laws_toByteS.f k l1 = some l1 := toByteS_eq l1 (by omega) k (by omega)
  have hi : impl_ReadPin.f a0 l1 a2 = some (rpR a0 l1 a2) := by rw [impl_ReadPin.f, if_pos ⟨by omega, bytesB_mk hb⟩]
  have hll : laws_eqByteS.f k l1 l1 = some true := by rw [eqByteS_eq _ _ (by omega) k (by omega)]; simp
  have he : ∀ r : Int × ByteArray, laws_eqPinText.f r.1 r.2 r.1 r.2 = some true := fun r => by rw [laws_eqPinText.f, if_pos rfl, if_pos rfl]
  rw [ht, Option.bind_some, readPin_eq a0 l1 a2 hb (by omega) (by omega) k (by omega), Option.bind_some, Option.bind_some, hi, Option.bind_some, he, Option.bind_some, if_pos rfl, Option.bind_some, hll, Option.bind_some, if_pos rfl]
end Go.Proofs.Ytiejallnkgllnaa.Pure
