/- FnParity: the print answers true; the walk. -/
import Derived.Test.YtbjlpdfhjapbkaaDoorLPar
namespace Go.Proofs.YtbjlpdfhjapbkaaDoor
open Go.RowKit Go.Proofs.YtbjlpdfhjapbkaaDoorW.PrintWords Go.Proofs.YtbjlpdfhjapbkaaDoorW.PrintLast Go.Proofs.YtbjlpdfhjapbkaaDoorW.PrintMore Go.Proofs.YtbjlpdfhjapbkaaDoor.D
open Go.Proofs.YtbjlpdfhjapbkaaDoor.B (xorL xorL_length oddB)
set_option linter.unusedVariables false
namespace LPar
theorem byte_rd (l : List Int) (hb : Bytes l) (i : Int) : 0 ≤ rd l i ∧ rd l i ≤ 255 := by
  unfold rd
  rw [List.getD_eq_getElem?_getD]
  cases h : l[i.toNat]? with
  | none => exact ⟨Int.le_refl _, by decide⟩
  | some v => exact hb v (List.mem_of_getElem? h)
theorem cut_loop (x0 : List Int) (x1 n : Nat) (h1 : x1 ≤ 1000) (hn : n ≤ 1000) (hb : Bytes x0) (hl : x0.length ≤ 1048576) : ∀ (d i : Nat) (x7 : List Int), x7.length = n → Bytes x7 → i + d = n → ∀ k, d < k →
    ∃ r, laws_cut.l0 k x0 (x1 : Int) x7 (n : Int) (i : Int) = some r ∧ r.length = n ∧ Bytes r
  | 0, i, x7, h7, hb7, hi, k + 1, _ => by
    refine ⟨x7, ?_, h7, hb7⟩
    rw [laws_cut.l0, if_neg (by omega)]
  | d + 1, i, x7, h7, hb7, hi, k + 1, hk => by
    have hw1 : wrap64 ((x1 : Int) + (i : Int)) = (x1 : Int) + (i : Int) := B.wrap64_in (by omega)
    have hw2 : wrap64 ((i : Int) + 1) = ((i + 1 : Nat) : Int) := by rw [B.wrap64_in (by omega)]; omega
    rw [laws_cut.l0, if_pos (by omega), hw1, hw2]
    by_cases hlt : (x1 : Int) + (i : Int) < (x0.length : Int)
    · rw [if_pos hlt, if_pos (by omega), if_pos (by omega), if_pos (by omega)]
      refine cut_loop x0 x1 n h1 hn hb hl d (i + 1) _ (by rw [List.length_set]; exact h7) ?_ (by omega) k (by omega)
      intro x hx
      rcases List.mem_or_eq_of_mem_set hx with h | rfl
      · exact hb7 x h
      · exact byte_rd x0 hb _
    · rw [if_neg hlt]
      exact cut_loop x0 x1 n h1 hn hb hl d (i + 1) _ h7 hb7 (by omega) k (by omega)
theorem cut_some (x0 : List Int) (x1 n : Nat) (h1 : x1 ≤ 1000) (hn : n ≤ 1000) (hb : Bytes x0) (hl : x0.length ≤ 1048576) (k : Nat) (hk : n < k) :
    ∃ r, laws_cut.f k x0 (x1 : Int) (n : Int) = some r ∧ r.length = n ∧ Bytes r := by
  unfold laws_cut.f
  rw [if_pos (by omega), if_pos (by omega), Option.bind_some, Int.toNat_natCast, List.length_replicate]
  exact cut_loop x0 x1 n h1 hn hb hl n 0 _ List.length_replicate (fun x hx => by rw [(List.mem_replicate.1 hx).2]; omega) (by omega) k hk
theorem same_refl (l : List Int) : laws_same.f l l = some true := by simp [laws_same.f]
theorem des_some (a b : List Int) (d : Bool) (ha : Bytes a) (hb : Bytes b) (la : a.length = 8) (lb : b.length = 8) : impl_Des.f a b d = some (desL a b d) := by
  rw [impl_Des.f, LDes8.impl_Des.f, if_pos ⟨⟨bytesB_mk ha, bytesB_mk hb⟩, la, lb⟩]
theorem tdea_some (a b : List Int) (d : Bool) (ha : Bytes a) (hb : Bytes b) (la : a.length = 16) (lb : b.length = 8) : impl_Tdea.f a b d = some (tdeaL (a.take 8) (a.drop 8) b d) := by
  rw [impl_Tdea.f, LTdea8.impl_Tdea.f, if_pos ⟨⟨bytesB_mk ha, bytesB_mk hb⟩, la, lb⟩]
theorem mac_some (a b : List Int) (ha : Bytes a) (hb : Bytes b) (la : a.length = 16) (lb : b.length ≤ 4096) : impl_RetailMac.f a b = some (macL a b) := by
  rw [impl_RetailMac.f, LMac8.impl_RetailMac.f, if_pos ⟨⟨bytesB_mk ha, bytesB_mk hb⟩, la, lb⟩]
theorem pure (l0 : List Int) (hb0 : Bytes l0) : ∃ k, laws_FnParity.f k l0 = some true := by
  refine ⟨20, ?_⟩
  unfold laws_FnParity.f
  by_cases hbig0 : (l0.length : Int) > 1048576
  · rw [if_pos hbig0]
  · rw [if_neg hbig0]
    obtain ⟨key, hk, hkl, hkb⟩ := cut_some l0 0 16 (by omega) (by omega) hb0 (by omega) 20 (by omega)
    obtain ⟨blk, hc, hcl, hcb⟩ := cut_some l0 16 8 (by omega) (by omega) hb0 (by omega) 20 (by omega)
    have hk' : laws_cut.f 20 l0 0 16 = some key := hk
    have hc' : laws_cut.f 20 l0 16 8 = some blk := hc
    have hol : (key.map oddB).length = 16 := by rw [List.length_map, hkl]
    have hob : Bytes (key.map oddB) := odd_bytes key hkb
    have ho1 : impl_OddParity.f key = some (key.map oddB) := by rw [impl_OddParity.f, if_pos ⟨bytesB_mk hkb, by omega⟩]
    have ho2 : impl_OddParity.f (key.map oddB) = some (key.map oddB) := by rw [impl_OddParity.f, if_pos ⟨bytesB_mk hob, by omega⟩, odd_twice key hkb]
    have ht : (key.take 8).length = 8 := by rw [List.length_take]; omega
    have hd : (key.drop 8).length = 8 := by rw [List.length_drop]; omega
    have hto : (key.map oddB).take 8 = (key.take 8).map oddB := by rw [List.map_take]
    have hdo : (key.map oddB).drop 8 = (key.drop 8).map oddB := by rw [List.map_drop]
    have hal : (desL (key.take 8) blk false).length = 8 := desL_length _ _ _ hcl
    have s1 : impl_Des.f (key.take 8) blk false = some (desL (key.take 8) blk false) := des_some _ _ _ (hkb.take 8) hcb ht hcl
    have s2 : impl_Des.f ((key.map oddB).take 8) blk false = some (desL (key.take 8) blk false) := by
      rw [des_some _ _ _ (hob.take 8) hcb (by rw [hto, List.length_map, ht]) hcl, hto, desL_odd _ _ _ ht (hkb.take 8)]
    have s3 : impl_Tdea.f key blk true = some (tdeaL (key.take 8) (key.drop 8) blk true) := tdea_some _ _ _ hkb hcb hkl hcl
    have s4 : impl_Tdea.f (key.map oddB) blk true = some (tdeaL (key.take 8) (key.drop 8) blk true) := by
      rw [tdea_some _ _ _ hob hcb hol hcl, hto, hdo, tdeaL_odd _ _ _ _ ht (hkb.take 8) hd (hkb.drop 8)]
    have htl : (tdeaL (key.take 8) (key.drop 8) blk true).length = 8 := tdeaL_length _ _ _ _ hcl
    have hwl : (key.take 8 ++ (key.map oddB).take 8).length = 16 := by rw [List.length_append, hto, List.length_map, ht]
    have hwb : Bytes (key.take 8 ++ (key.map oddB).take 8) := (hkb.take 8).append (hob.take 8)
    have hw1 : (key.take 8 ++ (key.map oddB).take 8).take 8 = key.take 8 := by rw [List.take_append, ht]; simp [List.take_take]
    have hw2 : (key.take 8 ++ (key.map oddB).take 8).drop 8 = (key.take 8).map oddB := by rw [List.drop_append, ht, hto, List.drop_of_length_le (by omega)]; simp
    have s5 : impl_Tdea.f (key.take 8 ++ (key.map oddB).take 8) blk false = some (desL (key.take 8) blk false) := by
      rw [tdea_some _ _ _ hwb hcb hwl hcl, hw1, hw2, twice_des _ _ ht (hkb.take 8) hcl hcb]
    have hcode : ((l0.take (((l0.length : Int) % 50) : Int).toNat)).length ≤ 4096 := by rw [List.length_take]; omega
    have s6 : impl_RetailMac.f key (l0.take (((l0.length : Int) % 50) : Int).toNat) = some (macL key (l0.take (((l0.length : Int) % 50) : Int).toNat)) := mac_some _ _ hkb (hb0.take _) hkl hcode
    have s7 : impl_RetailMac.f (key.map oddB) (l0.take (((l0.length : Int) % 50) : Int).toNat) = some (macL key (l0.take (((l0.length : Int) % 50) : Int).toNat)) := by
      rw [mac_some _ _ hob (hb0.take _) hol hcode, macL_odd _ _ hkl hkb]
    have s8 : impl_RetailMac.f key ([] : List Int) = some (macL key []) := mac_some _ _ hkb (fun x hx => by cases hx) hkl (by simp)
    have hml : (macL key []).length = 8 := macL_length _ _
    have htwo : (key.map oddB).take 8 = (key.map oddB).take 8 := rfl
    rw [hk', Option.bind_some, hc', Option.bind_some, ho1, Option.bind_some, if_pos (by omega), ho2, Option.bind_some, same_refl, Option.bind_some, laws_FnParity.j0, if_neg (by simp), if_pos (by omega), s1, Option.bind_some, if_pos (by omega), if_pos (by omega),
      s2, Option.bind_some, same_refl, Option.bind_some, laws_FnParity.j1, if_neg (by simp), s3, Option.bind_some, if_pos (by omega), s4, Option.bind_some, same_refl, Option.bind_some, laws_FnParity.j2, if_neg (by simp), Option.bind_some, if_pos (by omega), Option.bind_some,
      if_pos (by rw [ht]; decide), Option.bind_some, if_pos (by omega), Option.bind_some, if_pos (by rw [List.nil_append, ht, hto, List.length_map, ht]; decide), List.nil_append, s5, Option.bind_some, same_refl, Option.bind_some, if_pos rfl, if_pos (by omega), if_pos (by omega), s6, Option.bind_some, s7, Option.bind_some, same_refl, Option.bind_some, if_pos rfl, s8, Option.bind_some, hml]
    rfl
end LPar
theorem laws_FnParity.walk (a0 : Option Addr) (len0 cap0 : Nat) (z0 : List Int) (w : World) (ht : Tab w) (w0 : (a0 = none ∧ len0 = 0 ∧ cap0 = 0 ∧ z0 = []) ∨ ∃ x, a0 = some x ∧ len0 ≤ cap0 ∧ cap0 ≤ maxLen ∧ z0.length = cap0 ∧ (∀ i, i < z0.length → w.cell? (x.add i) = some (.int .u8 (z0.getD i 0))) ∧ ∀ n ∈ z0, (Lit.int .u8 n).wf = true) (y0 : len0 * 1 ≤ 140737488351232) :
    Calls Tryd.prog 3 #[.slice a0 len0 cap0] w fun e w' => e = .returned (.bool true) ∧ Below w.heap.size w w' := by
  obtain ⟨l0, rfl, hr0, hm0, hw0, hc0⟩ := ReadsInt.ofRowC w0
  have hb0 : Bytes l0 := fun x hx => byte_of_wf' (hw0 x hx)
  obtain ⟨k, h⟩ := LPar.pure l0 hb0
  refine (LPar.laws_FnParity.calls k _ _ l0 true w rfl ht (Kd.C_of_reads (d := (0 : Int)) (h1 := fun _ => rfl) hr0) hc0 h).mono ?_
  rintro e w' ⟨rfl, hd⟩
  exact ⟨rfl, hd⟩
end Go.Proofs.YtbjlpdfhjapbkaaDoor
