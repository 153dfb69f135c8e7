/- The plain law of RouteOf: the printed law answers true, for all routes and a PAN. Conditions: lengths and sizes fit Go's. -/
import Derived.Test.YtiejallnkgllnaaPFnExactRouteOfx3
namespace Go.Proofs.Ytiejallnkgllnaa.PFnExactRouteOf
open Go.RowKit Go.Proofs.YtiejallnkgllnaaW.PrintWords Go.Proofs.YtiejallnkgllnaaW.PrintLast Go.Proofs.YtiejallnkgllnaaW.PrintMore
set_option linter.unusedVariables false

theorem wrap64_succ {n : Nat} (h : n < 9223372036854775807) : wrap64 ((n : Int) + 1) = ((n + 1 : Nat) : Int) := by unfold wrap64; omega
theorem wrap64_in {z : Int} (h : -9223372036854775808 ≤ z ∧ z ≤ 9223372036854775807) : wrap64 z = z := by unfold wrap64; omega
theorem rd69 (l : List S69) (i : Nat) (h : i < l.length) : rd_T69 l (i : Int) = l[i] := by simp [rd_T69, List.getD_eq_getElem?_getD, h]
theorem rd68 (l : List S68) (i : Nat) (h : i < l.length) : rd_T68 l (i : Int) = l[i] := by simp [rd_T68, List.getD_eq_getElem?_getD, h]

/-! sizes -/
theorem sz_loop (l : List S68) (hl : l.length ≤ 9223372036854775807) (hs : ∀ x ∈ l, x.f0.size ≤ 9223372036854775807) (d : Nat) : ∀ (i : Nat) (left : Int), i ≤ l.length → l.length - i = d → 0 ≤ left → left ≤ 1048576 →
    ∃ t, Ev (fun k => laws_szRouteS.l0 k l left (i : Int)) t ∧ (t < 0 ∨ ∀ j, i ≤ j → ∀ h : j < l.length, l[j].f0.size ≤ 1048576) := by
  induction d with
  | zero =>
    intro i left hi hd h0 h1
    refine ⟨left, Ev.step (f := fun _ => some left) (fun k => ?_) (Ev.now _), .inr fun j hj h => by omega⟩
    rw [laws_szRouteS.l0, if_neg (by omega)]
  | succ d ih =>
    intro i left hi hd h0 h1
    have hlt : i < l.length := by omega
    have hsi := hs l[i] (List.getElem_mem hlt)
    have hw : wrap64 (left - (l[i].f0.size : Int)) = left - (l[i].f0.size : Int) := wrap64_in (by omega)
    by_cases hneg : left - (l[i].f0.size : Int) < 0
    · refine ⟨-1, Ev.step (f := fun _ => some (-1)) (fun k => ?_) (Ev.now _), .inl (by omega)⟩
      rw [laws_szRouteS.l0, if_pos (by omega), if_pos (by omega), rd68 l i hlt, laws_szRoute.f, hw, if_pos hneg, Option.bind_some, if_pos (by omega)]
    · obtain ⟨t, ht, hp⟩ := ih (i + 1) (left - (l[i].f0.size : Int)) (by omega) (by omega) (by omega) (by omega)
      refine ⟨t, Ev.step (f := fun k => laws_szRouteS.l0 k l (left - (l[i].f0.size : Int)) ((i + 1 : Nat) : Int)) (fun k => ?_) ht, ?_⟩
      · rw [laws_szRouteS.l0, if_pos (by omega), if_pos (by omega), rd68 l i hlt, laws_szRoute.f, hw, if_neg hneg, Option.bind_some, if_neg hneg, wrap64_succ (by omega)]
      · rcases hp with hp | hp
        · exact .inl hp
        · refine .inr fun j hj h => ?_
          rcases Nat.lt_or_ge i j with hij | hij
          · exact hp j hij h
          · obtain rfl : i = j := by omega
            omega
theorem sz_eq (l : List S68) (hl : l.length ≤ 9223372036854775807) (hs : ∀ x ∈ l, x.f0.size ≤ 9223372036854775807) :
    ∃ t, Ev (fun k => laws_szRouteS.f k l 1048576) t ∧ (t < 0 ∨ (l.length ≤ 1048576 ∧ ∀ x ∈ l, x.f0.size ≤ 1048576)) := by
  have hw : wrap64 (1048576 - (l.length : Int)) = 1048576 - (l.length : Int) := wrap64_in (by omega)
  by_cases hneg : 1048576 - (l.length : Int) < 0
  · refine ⟨-1, Ev.congr (f := fun _ => some (-1)) (fun k => ?_) (Ev.now _), .inl (by omega)⟩
    rw [laws_szRouteS.f, hw, if_pos hneg]
  · obtain ⟨t, ht, hp⟩ := sz_loop l hl hs l.length 0 (1048576 - (l.length : Int)) (by omega) (by omega) (by omega) (by omega)
    refine ⟨t, Ev.congr (fun k => ?_) ht, ?_⟩
    · rw [laws_szRouteS.f, hw, if_neg hneg]; rfl
    · rcases hp with hp | hp
      · exact .inl hp
      · refine .inr ⟨by omega, fun x hx => ?_⟩
        obtain ⟨j, hj, rfl⟩ := List.mem_iff_getElem.1 hx
        exact hp j (Nat.zero_le _) hj

/-! the copy -/
def conv (s : S68) : S69 := ⟨s.f0, s.f1⟩
theorem take_set_succ' {α : Type} (xs : List α) (i : Nat) (v : α) (h : i < xs.length) : (xs.set i v).take (i + 1) = xs.take i ++ [v] := by
  rw [List.take_succ_eq_append_getElem (by simpa using h), List.getElem_set_self]
  congr 1
  apply List.ext_getElem
  · simp
  · intro j h1 h2
    simp only [List.getElem_take]
    rw [List.getElem_set_ne]
    simp at h1
    omega
theorem to_loop (l : List S68) (hl : l.length ≤ 1048576) (d : Nat) : ∀ (i : Nat) (x3 : List S69), x3.length = l.length → i ≤ l.length → l.length - i = d →
    Ev (fun k => laws_toRouteS.l0 k l x3 (i : Int)) (x3.take i ++ (l.drop i).map conv) := by
  induction d with
  | zero =>
    intro i x3 h3 hi hd
    refine Ev.step (f := fun _ => some (x3.take i ++ (l.drop i).map conv)) (fun k => ?_) (Ev.now _)
    rw [laws_toRouteS.l0, if_neg (by omega), List.drop_of_length_le (by omega), List.take_of_length_le (by omega)]
    simp
  | succ d ih =>
    intro i x3 h3 hi hd
    have hlt : i < l.length := by omega
    have h := ih (i + 1) (x3.set i (conv l[i])) (by simpa using h3) (by omega) (by omega)
    have e : (x3.set i (conv l[i])).take (i + 1) ++ (l.drop (i + 1)).map conv = x3.take i ++ (l.drop i).map conv := by
      rw [take_set_succ' _ _ _ (by omega), List.append_assoc, ← List.getElem_cons_drop hlt]
      rfl
    rw [e] at h
    refine Ev.step (fun k => ?_) h
    rw [laws_toRouteS.l0, if_pos (by omega), if_pos (by omega), rd68 l i hlt, laws_toRoute.f, Option.bind_some]
    simp only []
    rw [if_pos (by omega), wrap64_succ (by omega), Int.toNat_natCast]
    rfl
theorem to_eq (l : List S68) (hl : l.length ≤ 1048576) : Ev (fun k => laws_toRouteS.f k l) (l.map conv) := by
  have h := to_loop l hl l.length 0 (List.replicate l.length z69) (by simp) (by omega) (by omega)
  refine Ev.congr (fun k => ?_) (by simpa using h)
  rw [laws_toRouteS.f, if_pos (by omega), Int.toNat_natCast, if_pos (by omega)]

/-! equality of a list with itself -/
theorem eq_loop (l : List S69) (hl : l.length ≤ 1048576) (d : Nat) : ∀ (i : Nat), i ≤ l.length → l.length - i = d → Ev (fun k => laws_eqRouteS.l0 k l l (i : Int)) true := by
  induction d with
  | zero =>
    intro i hi hd
    refine Ev.step (f := fun _ => some true) (fun k => ?_) (Ev.now _)
    rw [laws_eqRouteS.l0, if_neg (by omega)]
  | succ d ih =>
    intro i hi hd
    have h := ih (i + 1) (by omega) (by omega)
    refine Ev.step (fun k => ?_) h
    rw [laws_eqRouteS.l0, if_pos (by omega), if_pos (by omega), if_pos (by omega), laws_eqRoute.f, if_pos rfl, if_pos rfl, Option.bind_some, if_pos rfl, wrap64_succ (by omega)]
theorem eq_eq (l : List S69) (hl : l.length ≤ 1048576) : Ev (fun k => laws_eqRouteS.f k l l) true := by
  refine Ev.congr (fun k => ?_) (eq_loop l hl l.length 0 (by omega) (by omega))
  rw [laws_eqRouteS.f, if_pos rfl]
  rfl

/-! the route -/
/-- The prefix stands at the PAN's head. -/
def Hit (pan : ByteArray) (r : S69) : Prop := r.f0.size ≤ pan.size ∧ (pan.extract 0 r.f0.size).toList = r.f0.toList
/-- What RouteOf is to answer: the link of the first of the longest. -/
def Best (pan : ByteArray) (l : List S69) (v : Int) : Prop :=
  (v = -1 ∧ ∀ x ∈ l, ¬ Hit pan x) ∨ ∃ (p : Nat) (h : p < l.length), Hit pan l[p] ∧ v = l[p].f1 ∧ (∀ x ∈ l, Hit pan x → x.f0.size ≤ l[p].f0.size) ∧ ∀ j (hj : j < p), Hit pan (l[j]'(by omega)) → (l[j]'(by omega)).f0.size < l[p].f0.size
theorem Best.unique {pan : ByteArray} {l : List S69} {v v' : Int} (h : Best pan l v) (h' : Best pan l v') : v = v' := by
  rcases h with ⟨rfl, hn⟩ | ⟨p, hp, hh, rfl, hm, hf⟩
  · rcases h' with ⟨rfl, _⟩ | ⟨p, hp, hh, _⟩
    · rfl
    · exact absurd hh (hn _ (List.getElem_mem hp))
  · rcases h' with ⟨rfl, hn⟩ | ⟨p', hp', hh', rfl, hm', hf'⟩
    · exact absurd hh (hn _ (List.getElem_mem hp))
    · have a := hm _ (List.getElem_mem hp') hh'
      have b := hm' _ (List.getElem_mem hp) hh
      rcases Nat.lt_trichotomy p p' with hlt | heq | hgt
      · have := hf' p hlt hh; omega
      · subst heq; rfl
      · have := hf p' hgt hh'; omega
theorem size_toList (s : ByteArray) : s.toList.length = s.size := by
  rw [ByteArray.toList_eq s, data_length]
theorem size_extract0 (s : ByteArray) (n : Nat) (h : n ≤ s.size) : (s.extract 0 n).size = n := by
  rw [ByteArray.size_extract]; omega
theorem prefix_eq (pan p : ByteArray) : strings_HasPrefix.f pan p = some (decide (p.size ≤ pan.size ∧ (pan.extract 0 p.size).toList = p.toList)) := by
  rw [strings_HasPrefix.f, stringslite_HasPrefix.f]
  by_cases h : p.size ≤ pan.size
  · rw [if_pos (by omega), if_pos (by omega), if_pos (by omega), Option.bind_some, Int.toNat_natCast]
    congr 1
    by_cases h2 : (pan.extract 0 p.size).toList = p.toList
    · simp [h, h2]
    · simp [h, h2]
  · rw [if_neg (by omega), Option.bind_some]
    simp [h]
instance (pan : ByteArray) (r : S69) : Decidable (Hit pan r) := by unfold Hit; infer_instance

/-- What impl's loop knows behind i routes. -/
def Inv (pan : ByteArray) (l : List S69) (i : Nat) (x5 x6 : Int) : Prop :=
  (x5 = -1 ∧ x6 = -1 ∧ ∀ j (hj : j < i) (h : j < l.length), ¬ Hit pan l[j]) ∨ ∃ (p : Nat) (hp : p < i) (h : p < l.length), Hit pan l[p] ∧ x5 = l[p].f1 ∧ x6 = (l[p].f0.size : Int) ∧ (∀ j (hj : j < i) (h' : j < l.length), Hit pan l[j] → l[j].f0.size ≤ l[p].f0.size) ∧ ∀ j (hj : j < p), Hit pan (l[j]'(by omega)) → (l[j]'(by omega)).f0.size < l[p].f0.size
theorem Inv.hit {pan : ByteArray} {l : List S69} {i : Nat} {x5 x6 : Int} (hI : Inv pan l i x5 x6) (hlt : i < l.length) (hbig : ((l[i].f0.size : Nat) : Int) > x6) (hh : Hit pan l[i]) : Inv pan l (i + 1) l[i].f1 (l[i].f0.size : Int) := by
  refine .inr ⟨i, by omega, hlt, hh, rfl, rfl, fun j hj h' hhj => ?_, fun j hj hhj => ?_⟩
  · rcases Nat.lt_or_ge j i with hji | hji
    · rcases hI with ⟨_, _, hn⟩ | ⟨p, hp, h, _, _, h6, hm, _⟩
      · exact absurd hhj (hn j hji h')
      · have := hm j hji h' hhj
        clear hm
        omega
    · obtain rfl : i = j := by clear hI; omega
      exact Nat.le_refl _
  · rcases hI with ⟨_, _, hn⟩ | ⟨p, hp, h, _, _, h6, hm, _⟩
    · exact absurd hhj (hn j hj (by omega))
    · have := hm j hj (by omega) hhj
      clear hm
      omega
theorem Inv.miss {pan : ByteArray} {l : List S69} {i : Nat} {x5 x6 : Int} (hI : Inv pan l i x5 x6) (hlt : i < l.length) (hno : ¬ Hit pan l[i] ∨ ¬ ((l[i].f0.size : Nat) : Int) > x6) : Inv pan l (i + 1) x5 x6 := by
  rcases hI with ⟨h5, h6, hn⟩ | ⟨p, hp, h, hhp, h5, h6, hm, hf⟩
  · refine .inl ⟨h5, h6, fun j hj h => ?_⟩
    rcases Nat.lt_or_ge j i with hji | hji
    · exact hn j hji h
    · obtain rfl : i = j := by omega
      rcases hno with hno | hno
      · exact hno
      · exact absurd (by omega) hno
  · refine .inr ⟨p, Nat.lt_succ_of_lt hp, h, hhp, h5, h6, fun j hj h' hhj => ?_, hf⟩
    rcases Nat.lt_or_ge j i with hji | hji
    · exact hm j hji h' hhj
    · obtain rfl : i = j := by clear hm hf; omega
      rcases hno with hno | hno
      · exact absurd hhj hno
      · clear hm hf; omega
theorem impl_loop (pan : ByteArray) (l : List S69) (hl : l.length ≤ 20) (d : Nat) : ∀ (i : Nat) (x5 x6 : Int), i ≤ l.length → l.length - i = d → Inv pan l i x5 x6 →
    ∃ v, Ev (fun k => impl_RouteOf.l0 k pan x5 x6 l (l.length : Int) (i : Int)) v ∧ Best pan l v := by
  induction d with
  | zero =>
    intro i x5 x6 hi hd hI
    refine ⟨x5, Ev.step (f := fun _ => some x5) (fun k => ?_) (Ev.now _), ?_⟩
    · rw [impl_RouteOf.l0, if_neg (by omega)]
    · rcases hI with ⟨rfl, _, hn⟩ | ⟨p, hp, h, hh, rfl, _, hm, hf⟩
      · refine .inl ⟨rfl, fun x hx => ?_⟩
        obtain ⟨j, hj, rfl⟩ := List.mem_iff_getElem.1 hx
        exact hn j (by omega) hj
      · refine .inr ⟨p, h, hh, rfl, fun x hx hx' => ?_, hf⟩
        obtain ⟨j, hj, rfl⟩ := List.mem_iff_getElem.1 hx
        exact hm j (by clear hm hf; omega) hj hx'
  | succ d ih =>
    intro i x5 x6 hi hd hI
    have hlt : i < l.length := by omega
    have e1 : (i : Int) < (l.length : Int) := by omega
    have e0 : 0 ≤ (i : Int) := by omega
    have e2 : i < 9223372036854775807 := by omega
    have e3 : i + 1 ≤ l.length := by omega
    have e4 : l.length - (i + 1) = d := by omega
    by_cases hbig : ((l[i].f0.size : Nat) : Int) > x6
    · by_cases hh : Hit pan l[i]
      · obtain ⟨v, hv, hb⟩ := ih (i + 1) l[i].f1 (l[i].f0.size : Int) e3 e4 (hI.hit hlt hbig hh)
        refine ⟨v, Ev.step (fun k => ?_) hv, hb⟩
        rw [impl_RouteOf.l0, if_pos e1, if_pos e0, if_pos e1, rd69 l i hlt, if_pos hbig, prefix_eq, Option.bind_some, if_pos (decide_eq_true (show _ ∧ _ from hh)), wrap64_succ e2]
      · obtain ⟨v, hv, hb⟩ := ih (i + 1) x5 x6 e3 e4 (hI.miss hlt (.inl hh))
        refine ⟨v, Ev.step (fun k => ?_) hv, hb⟩
        rw [impl_RouteOf.l0, if_pos e1, if_pos e0, if_pos e1, rd69 l i hlt, if_pos hbig, prefix_eq, Option.bind_some, decide_eq_false (show ¬ (l[i].f0.size ≤ pan.size ∧ (pan.extract 0 l[i].f0.size).toList = l[i].f0.toList) from hh), if_neg (by simp), wrap64_succ e2]
    · obtain ⟨v, hv, hb⟩ := ih (i + 1) x5 x6 e3 e4 (hI.miss hlt (.inr hbig))
      refine ⟨v, Ev.step (fun k => ?_) hv, hb⟩
      rw [impl_RouteOf.l0, if_pos e1, if_pos e0, if_pos e1, rd69 l i hlt, if_neg hbig, wrap64_succ e2]
theorem impl_eq (pan : ByteArray) (l : List S69) (hl : l.length ≤ 1048576) : ∃ v, Ev (fun k => impl_RouteOf.f k l pan) v ∧ Best pan (l.take 20) v := by
  have hmn : mn (l.length : Int) 20 = ((min l.length 20 : Nat) : Int) := by unfold mn; split <;> omega
  have hl20 : (l.take 20).length = min l.length 20 := by simp [Nat.min_comm]
  obtain ⟨v, hv, hb⟩ := impl_loop pan (l.take 20) (by omega) _ 0 (-1) (-1) (by omega) rfl (.inl ⟨rfl, rfl, fun j hj => by omega⟩)
  refine ⟨v, Ev.congr (fun k => ?_) hv, hb⟩
  rw [impl_RouteOf.f, hmn, if_pos (by omega), if_pos (by omega), Option.bind_some, Int.toNat_natCast]
  have e : l.take (min l.length 20) = l.take 20 := by
    rcases Nat.le_total l.length 20 with h | h
    · rw [Nat.min_eq_left h, List.take_of_length_le (Nat.le_refl _), List.take_of_length_le h]
    · rw [Nat.min_eq_right h]
  rw [e]
  rfl

theorem spec_inner (pan : ByteArray) (l : List S69) (hl : l.length ≤ 20) (n : Nat) (hn : n ≤ pan.size) (v : Int)
    (hout : (∀ x ∈ l, ¬ (x.f0.toList = (pan.extract 0 n).toList)) → Ev (fun k => spec_RouteOf.l1 k l pan (wrap64 ((n : Int) - 1))) v ∧ Best pan l v) (hmax : ∀ x ∈ l, Hit pan x → x.f0.size ≤ n) (d : Nat) : ∀ (i : Nat), i ≤ l.length → l.length - i = d →
    (∀ j (hj : j < i) (h : j < l.length), ¬ (l[j].f0.toList = (pan.extract 0 n).toList)) →
    ∃ v, Ev (fun k => spec_RouteOf.l2 k l pan (n : Int) l (l.length : Int) (i : Int)) v ∧ Best pan l v := by
  induction d with
  | zero =>
    intro i hi hd hI
    obtain ⟨h1, h2⟩ := hout (fun x hx => by
      obtain ⟨j, hj, rfl⟩ := List.mem_iff_getElem.1 hx
      exact hI j (by omega) hj)
    refine ⟨v, Ev.step (fun k => ?_) h1, h2⟩
    rw [spec_RouteOf.l2, if_neg (by omega)]
  | succ d ih =>
    intro i hi hd hI
    have hlt : i < l.length := by omega
    by_cases he : l[i].f0.toList = (pan.extract 0 n).toList
    · have hsz : l[i].f0.size = n := by rw [← size_toList, he, size_toList, size_extract0 _ _ hn]
      refine ⟨l[i].f1, Ev.step (f := fun _ => some l[i].f1) (fun k => ?_) (Ev.now _), ?_⟩
      · rw [spec_RouteOf.l2, if_pos (by omega), if_pos (by omega), if_pos (by omega), if_pos (by omega), if_pos (by omega), rd69 l i hlt, Int.toNat_natCast, if_pos he]
      · refine .inr ⟨i, hlt, ⟨by omega, by rw [hsz]; exact he.symm⟩, rfl, fun x hx hh => by rw [hsz]; exact hmax x hx hh, fun j hj hh => ?_⟩
        have a := hmax _ (List.getElem_mem (show j < l.length by omega)) hh
        rcases Nat.lt_or_ge (l[j]'(by omega)).f0.size n with hlt' | hge
        · omega
        · have : (l[j]'(by omega)).f0.size = n := by omega
          have hjl : j < l.length := by omega
          have h2 := hh.2
          rw [this] at h2
          exact absurd h2.symm (hI j hj hjl)
    · obtain ⟨v, h1, h2⟩ := ih (i + 1) (by omega) (by omega) (fun j hj h => by
        rcases Nat.lt_or_ge j i with hji | hji
        · exact hI j hji h
        · obtain rfl : i = j := by omega
          exact he)
      refine ⟨v, Ev.step (fun k => ?_) h1, h2⟩
      rw [spec_RouteOf.l2, if_pos (by omega), if_pos (by omega), if_pos (by omega), if_pos (by omega), if_pos (by omega), rd69 l i hlt, Int.toNat_natCast, if_neg he, wrap64_succ (by omega)]
theorem spec_none (pan : ByteArray) (l : List S69) (h : ∀ x ∈ l, ¬ Hit pan x) : Ev (fun k => spec_RouteOf.l1 k l pan (wrap64 ((0 : Int) - 1))) (-1) ∧ Best pan l (-1) := by
  refine ⟨Ev.step (f := fun _ => some (-1)) (fun k => ?_) (Ev.now _), .inl ⟨rfl, h⟩⟩
  rw [spec_RouteOf.l1, show wrap64 ((0 : Int) - 1) = -1 from by decide +kernel, if_neg (by decide)]
theorem spec_outer (pan : ByteArray) (l : List S69) (hl : l.length ≤ 20) (n : Nat) (hb : n ≤ 1048576) (hn : n ≤ pan.size) (hmax : ∀ x ∈ l, Hit pan x → x.f0.size ≤ n) :
    ∃ v, Ev (fun k => spec_RouteOf.l1 k l pan (n : Int)) v ∧ Best pan l v := by
  induction n with
  | zero =>
    obtain ⟨v, h1, h2⟩ := spec_inner pan l hl 0 hn (-1) (fun hne => spec_none pan l (fun x hx hh => by
      have hz : x.f0.size = 0 := Nat.le_zero.1 (hmax x hx hh)
      have h2 := hh.2
      rw [hz] at h2
      exact hne x hx h2.symm)) hmax _ 0 (by omega) rfl (fun j hj => by omega)
    refine ⟨v, Ev.step (fun k => ?_) h1, h2⟩
    rw [spec_RouteOf.l1, if_pos (by decide)]
    rfl
  | succ n ih =>
    by_cases hne : ∀ x ∈ l, ¬ (x.f0.toList = (pan.extract 0 (n + 1)).toList)
    · obtain ⟨v0, h1, h2⟩ := ih (by omega) (by omega) (fun x hx hh => by
        have a := hmax x hx hh
        rcases Nat.lt_or_ge n x.f0.size with hlt | hge
        · have e : x.f0.size = n + 1 := by omega
          exact absurd (by rw [← e]; exact hh.2.symm) (hne x hx)
        · exact hge)
      have hw : wrap64 (((n + 1 : Nat) : Int) - 1) = (n : Int) := by rw [wrap64_in (by omega)]; omega
      obtain ⟨v, h3, h4⟩ := spec_inner pan l hl (n + 1) hn v0 (fun _ => ⟨by rw [hw]; exact h1, h2⟩) hmax _ 0 (by omega) rfl (fun j hj => by omega)
      refine ⟨v, Ev.step (fun k => ?_) h3, h4⟩
      rw [spec_RouteOf.l1, if_pos (by omega)]
      rfl
    · obtain ⟨v, h3, h4⟩ := spec_inner pan l hl (n + 1) hn 0 (fun h => absurd h hne) hmax _ 0 (by omega) rfl (fun j hj => by omega)
      refine ⟨v, Ev.step (fun k => ?_) h3, h4⟩
      rw [spec_RouteOf.l1, if_pos (by omega)]
      rfl
theorem spec_most (pan : ByteArray) (l : List S69) (hl : l.length ≤ 20) (hs : ∀ x ∈ l, x.f0.size ≤ 1048576) (hp : pan.size ≤ 1048576) (d : Nat) : ∀ (i m : Nat), m ≤ 1048576 → i ≤ l.length → l.length - i = d →
    (∀ j (hj : j < i) (h : j < l.length), l[j].f0.size ≤ m) →
    ∃ v, Ev (fun k => spec_RouteOf.l0 k l pan (m : Int) l (l.length : Int) (i : Int)) v ∧ Best pan l v := by
  induction d with
  | zero =>
    intro i m hm hi hd hI
    have hall : ∀ x ∈ l, x.f0.size ≤ m := fun x hx => by
      obtain ⟨j, hj, rfl⟩ := List.mem_iff_getElem.1 hx
      exact hI j (by omega) hj
    by_cases hgt : m > pan.size
    · obtain ⟨v, h1, h2⟩ := spec_outer pan l hl pan.size hp (Nat.le_refl _) (fun x hx hh => hh.1)
      have h3 : Ev (fun k => spec_RouteOf.j2 k l pan (pan.size : Int)) v := Ev.step (fun k => by rw [spec_RouteOf.j2]) h1
      refine ⟨v, Ev.step (fun k => ?_) h3, h2⟩
      rw [spec_RouteOf.l0, if_neg (by omega), if_pos (by omega)]
    · obtain ⟨v, h1, h2⟩ := spec_outer pan l hl m hm (by omega) (fun x hx _ => hall x hx)
      have h3 : Ev (fun k => spec_RouteOf.j2 k l pan (m : Int)) v := Ev.step (fun k => by rw [spec_RouteOf.j2]) h1
      refine ⟨v, Ev.step (fun k => ?_) h3, h2⟩
      rw [spec_RouteOf.l0, if_neg (by omega), if_neg (by omega)]
  | succ d ih =>
    intro i m hm hi hd hI
    have hlt : i < l.length := by omega
    have hsi := hs l[i] (List.getElem_mem hlt)
    by_cases hgt : ((l[i].f0.size : Nat) : Int) > (m : Int)
    · obtain ⟨v, h1, h2⟩ := ih (i + 1) l[i].f0.size hsi (by omega) (by omega) (fun j hj h => by
        rcases Nat.lt_or_ge j i with hji | hji
        · have := hI j hji h; omega
        · obtain rfl : i = j := by omega
          exact Nat.le_refl _)
      refine ⟨v, Ev.step (fun k => ?_) h1, h2⟩
      rw [spec_RouteOf.l0, if_pos (by omega), if_pos (by omega), if_pos (by omega), rd69 l i hlt, if_pos hgt, wrap64_succ (by omega)]
    · obtain ⟨v, h1, h2⟩ := ih (i + 1) m hm (by omega) (by omega) (fun j hj h => by
        rcases Nat.lt_or_ge j i with hji | hji
        · exact hI j hji h
        · obtain rfl : i = j := by omega
          omega)
      refine ⟨v, Ev.step (fun k => ?_) h1, h2⟩
      rw [spec_RouteOf.l0, if_pos (by omega), if_pos (by omega), if_pos (by omega), rd69 l i hlt, if_neg hgt, wrap64_succ (by omega)]
theorem spec_eq (pan : ByteArray) (l : List S69) (hs : ∀ x ∈ l, x.f0.size ≤ 1048576) (hp : pan.size ≤ 1048576) : ∃ v, Ev (fun k => spec_RouteOf.f k l pan) v ∧ Best pan (l.take 20) v := by
  obtain ⟨v, h1, h2⟩ := spec_most pan (l.take 20) (by simp; omega) (fun x hx => hs x (List.mem_of_mem_take hx)) hp _ 0 0 (by omega) (by omega) rfl (fun j hj => by omega)
  have hj : Ev (fun k => spec_RouteOf.j0 k (l.take 20) pan) v := Ev.step (fun k => by rw [spec_RouteOf.j0]; rfl) h1
  refine ⟨v, Ev.congr (fun k => ?_) hj, h2⟩
  rw [spec_RouteOf.f]
  by_cases h : (l.length : Int) > 20
  · rw [if_pos h, if_pos (by omega)]
  · rw [if_neg h, List.take_of_length_le (by omega)]

theorem law_eq (l : List S68) (pan : ByteArray) (hl : l.length ≤ 9223372036854775807) (hs : ∀ x ∈ l, x.f0.size ≤ 9223372036854775807) : ∃ k, laws_FnExactRouteOf.f k l pan = some true := by
  refine Ev.rounds ?_
  by_cases hbig : (pan.size : Int) > 1048576
  · exact Ev.congr (f := fun _ => some true) (fun k => by rw [laws_FnExactRouteOf.f, if_pos hbig]) (Ev.now _)
  · obtain ⟨t, ht, hp⟩ := sz_eq l hl hs
    refine Ev.congr (fun k => by rw [laws_FnExactRouteOf.f, if_neg hbig]) (Ev.bind ht ?_)
    by_cases hneg : t < 0
    · exact Ev.congr (f := fun _ => some true) (fun k => by rw [if_pos hneg]) (Ev.now _)
    · have hp' : l.length ≤ 1048576 ∧ ∀ x ∈ l, x.f0.size ≤ 1048576 := hp.resolve_left hneg
      have hto := to_eq l hp'.1
      obtain ⟨v, hv, hb⟩ := spec_eq pan (l.map conv) (fun x hx => by
        obtain ⟨y, hy, rfl⟩ := List.mem_map.1 hx
        exact hp'.2 y hy) (by omega)
      obtain ⟨v', hv', hb'⟩ := impl_eq pan (l.map conv) (by simpa using hp'.1)
      have hvv : v' = v := hb'.unique hb
      refine Ev.congr (fun k => by rw [if_neg hneg]) (Ev.bind hto (Ev.bind hv (Ev.bind hto (Ev.bind hv' ?_))))
      refine Ev.congr (fun k => by rw [if_pos hvv]) (Ev.bind hto (Ev.bind (eq_eq (l.map conv) (by simpa using hp'.1)) ?_))
      exact Ev.congr (fun k => by rw [if_pos rfl]) (Ev.now _)
end Go.Proofs.Ytiejallnkgllnaa.PFnExactRouteOf
