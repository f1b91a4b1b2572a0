/- Plain laws of rings. -/
import Derived.Test.YtgnellpcphepjaaVxDC
import Derived.Test.YtgnellpcphepjaaVl1
set_option linter.unusedVariables false
set_option linter.unusedSimpArgs false
namespace Go.Proofs.Ytgnellpcphepjaa.VX.VxD_C
open Go.Proofs
abbrev Rg := Int × (Int × (List Int × Int))
def rOK (r : Rg) : Prop := 0 ≤ r.1 ∧ r.1 ≤ 8 ∧ (r.2.2.1.length : Int) = r.1 ∧ 0 ≤ r.2.2.2 ∧ r.2.2.2 ≤ r.1 ∧ 0 ≤ r.2.1 ∧ r.2.1 < max 1 r.1
instance (r : Rg) : Decidable (rOK r) := by unfold rOK; infer_instance
def rSlot (r : Rg) (i : Nat) : Nat := (r.2.1.toNat + i) % r.1.toNat
def rItems (r : Rg) : List Int := (List.range r.2.2.2.toNat).map fun i => r.2.2.1.getD (rSlot r i) 0
theorem right_eq (r : Rg) : F_ring_Right r = some (decide (rOK r)) := by
  obtain ⟨c, f, s, n⟩ := r
  simp only [F_ring_Right, rOK, cond_eq_ite, decide_eq_true_eq, beq_iff_eq]
  repeat' split
  all_goals first | exact decF (by omega) | exact decT (by omega) | exact decE (by omega)
theorem rRefRight_eq (r : Rg) : F_plaitref04_Right r = some (decide (rOK r)) := by
  obtain ⟨c, f, s, n⟩ := r
  simp only [F_plaitref04_Right, rOK, cond_eq_ite, decide_eq_true_eq, beq_iff_eq, bne_iff_ne, ne_eq]
  repeat' split
  all_goals first | exact decF (by omega) | exact decT (by omega) | exact decE (by omega)
theorem tmod_nat (a b : Nat) : Int.tmod (a : Int) (b : Int) = ((a % b : Nat) : Int) := by
  rw [Int.tmod_eq_emod_of_nonneg (by omega)]; rfl
theorem at_eq {r : Rg} (h : rOK r) (hn : 0 < r.1) {i : Nat} (hi : i ≤ 8) : F_ring_places_at (r, (i : Int)) = some ((rSlot r i : Nat) : Int) := by
  obtain ⟨c, f, s, n⟩ := r
  obtain ⟨h1, h2, h3, h4, h5, h6, h7⟩ := h
  simp only at h1 h2 h3 h4 h5 h6 h7 hn
  unfold F_ring_places_at
  simp only
  rw [bif_t (by simp; omega), wrapI (by omega) (by omega)]
  obtain ⟨c', rfl⟩ := Int.eq_ofNat_of_zero_le h1
  obtain ⟨f', rfl⟩ := Int.eq_ofNat_of_zero_le h6
  show some (Int.tmod (((f' + i : Nat)) : Int) (c' : Int)) = _
  rw [tmod_nat]; rfl
theorem slot_lt {r : Rg} (hn : 0 < r.1) (i : Nat) : rSlot r i < r.1.toNat := Nat.mod_lt _ (by omega)
theorem items_eq (r : Rg) : F_ring_Items r = some (if rOK r then (rItems r, 0) else ([], 1)) := by
  unfold F_ring_Items
  rw [right_eq]
  simp only [Option.bind_some]
  by_cases h : rOK r
  · rw [bif_f (by simp [h]), if_pos h]
    unfold F_ring_places_all F_ring_places_all_1_ring_Items_r6
    simp only [Option.bind_some]
    have hr := h
    obtain ⟨h1, h2, h3, h4, h5, h6, h7⟩ := h
    obtain ⟨n, hn⟩ := Int.eq_ofNat_of_zero_le h4
    have := loop_count (f := L_ring_places_all_1_ring_Items_r6_2) n (fun k => ((n : Int), (k : Int), r, (List.range k).map fun i => r.2.2.1.getD (rSlot r i) 0)) (.inr (r, rItems r)) (by
      intro k hk
      unfold L_ring_places_all_1_ring_Items_r6_2 F_ring_Items_r6
      simp only
      rw [bif_t (by simpa using hk), at_eq hr (by omega) (by omega)]
      simp only [Option.bind_some]
      have hs := slot_lt (r := r) (by omega) k
      rw [bif_t (inb_nat (by omega)), bif_t (fits_iff.2 (by simp; omega))]
      simp only [Option.bind_some]
      rw [bif_t (by rfl), wrapI (by omega) (by omega), toN_nat, getAt_eq]
      rw [List.range_succ, List.map_append]; rfl) (by
      unfold L_ring_places_all_1_ring_Items_r6_2
      simp only
      rw [bif_f (by simp)]
      unfold rItems
      rw [hn]; rfl) 0 (Nat.zero_le _)
    rw [hn]
    rw [show loop L_ring_places_all_1_ring_Items_r6_2 ((n : Int), (0 : Int), r, ([] : List Int)) = _ from this]
    simp only [Option.bind_some]
    rw [bif_t (by rfl)]
  · rw [bif_t (by simp [h]), if_neg h]
theorem items_len (r : Rg) : (rItems r).length = r.2.2.2.toNat := by simp [rItems]
def zeroR : Rg := (0, 0, [], 0)
def pushed (r : Rg) (v : Int) : Rg := (r.1, r.2.1, r.2.2.1.set (rSlot r r.2.2.2.toNat) v, r.2.2.2 + 1)
def popped (r : Rg) : Rg := (r.1, (rSlot r 1 : Nat), r.2.2.1, r.2.2.2 - 1)
def first (r : Rg) : Int := r.2.2.1.getD (rSlot r 0) 0
theorem clone_eq (l : List Int) (h : l.length ≤ 4294967296) : F_slices_Clone_int l = some l := by
  unfold F_slices_Clone_int
  by_cases hl : l.length = 0
  · obtain rfl : l = [] := List.length_eq_zero_iff.1 hl
    rw [bif_t (by rfl), bif_t (by rfl)]
    show amb (some []) (some []) = _
    unfold amb
    rw [if_pos rfl]
  · rw [bif_f (by
      cases hb : Nat.beq l.length 0 with
      | false => rfl
      | true => exact absurd (Nat.eq_of_beq_eq_true hb) hl), bif_t (fits_iff.2 (by simpa using h))]
    rfl
theorem push_eq (r : Rg) (v : Int) : F_ring_Push (r, v) = some (if rOK r then (if r.2.2.2 = r.1 then (zeroR, 5) else (pushed r v, 0)) else (zeroR, 1)) := by
  unfold F_ring_Push
  simp only
  rw [right_eq]
  simp only [Option.bind_some]
  by_cases h : rOK r
  · rw [bif_f (by simp [h]), if_pos h]
    by_cases hn : r.2.2.2 = r.1
    · rw [bif_t (by simpa using hn), if_pos hn]; rfl
    · rw [bif_f (by simpa using hn), if_neg hn]
      have hr := h
      obtain ⟨h1, h2, h3, h4, h5, h6, h7⟩ := h
      rw [clone_eq _ (by omega)]
      simp only [Option.bind_some]
      unfold F_ring_places_at_lent
      simp only
      obtain ⟨n, hn'⟩ := Int.eq_ofNat_of_zero_le h4
      have ha := at_eq hr (by omega) (i := n) (by omega)
      unfold F_ring_places_at at ha
      simp only at ha
      rw [bif_t (by simp; omega)] at ha
      rw [bif_t (by simp; omega), hn']
      rw [Option.some.inj ha]
      simp only [Option.bind_some]
      have hs := slot_lt (r := r) (by omega) n
      rw [bif_t (inb_nat (by omega)), wrapI (by omega) (by omega), toN_nat]
      unfold pushed
      rw [hn']; rfl
  · rw [bif_t (by simp [h]), if_neg h]; rfl
theorem pop_eq (r : Rg) : F_ring_Pop r = some (if rOK r then (if r.2.2.2 = 0 then (zeroR, 0, 4) else (popped r, first r, 0)) else (zeroR, 0, 1)) := by
  unfold F_ring_Pop
  rw [right_eq]
  simp only [Option.bind_some]
  by_cases h : rOK r
  · rw [bif_f (by simp [h]), if_pos h]
    by_cases hn : r.2.2.2 = 0
    · rw [bif_t (by simpa using hn), if_pos hn]; rfl
    · rw [bif_f (by simpa using hn), if_neg hn]
      have hr := h
      obtain ⟨h1, h2, h3, h4, h5, h6, h7⟩ := h
      have a0 := at_eq hr (by omega) (i := 0) (by omega)
      have a1 := at_eq hr (by omega) (i := 1) (by omega)
      rw [show F_ring_places_at (r, (0 : Int)) = _ from a0, show F_ring_places_at (r, (1 : Int)) = _ from a1]
      simp only [Option.bind_some]
      have hs := slot_lt (r := r) (by omega) 0
      rw [bif_t (inb_nat (by omega)), wrapI (by omega) (by omega), toN_nat, getAt_eq]
      rfl
  · rw [bif_t (by simp [h]), if_neg h]; rfl
theorem pushed_ok {r : Rg} (h : rOK r) (hn : r.2.2.2 ≠ r.1) (v : Int) : rOK (pushed r v) := by
  obtain ⟨h1, h2, h3, h4, h5, h6, h7⟩ := h
  refine ⟨h1, h2, ?_, ?_, ?_, h6, h7⟩
  · simp only [pushed, List.length_set]; exact h3
  · simp only [pushed]; omega
  · simp only [pushed]; omega
theorem slot_inj {r : Rg} (hc : 0 < r.1) {i j : Nat} (hi : i < r.1.toNat) (hj : j < r.1.toNat) (h : rSlot r i = rSlot r j) : i = j := by
  unfold rSlot at h
  have h1 := Nat.div_add_mod (r.2.1.toNat + i) r.1.toNat
  have h2 := Nat.div_add_mod (r.2.1.toNat + j) r.1.toNat
  rw [h] at h1
  generalize r.1.toNat = c at *
  generalize (r.2.1.toNat + i) / c = p at *
  generalize (r.2.1.toNat + j) / c = q at *
  rcases Nat.lt_trichotomy p q with hpq | hpq | hpq
  · have : c * p + c ≤ c * q := by rw [← Nat.mul_succ]; exact Nat.mul_le_mul_left c hpq
    omega
  · subst hpq; omega
  · have : c * q + c ≤ c * p := by rw [← Nat.mul_succ]; exact Nat.mul_le_mul_left c hpq
    omega
theorem pushed_items {r : Rg} (h : rOK r) (hn : r.2.2.2 ≠ r.1) (v : Int) : rItems (pushed r v) = rItems r ++ [v] := by
  obtain ⟨h1, h2, h3, h4, h5, h6, h7⟩ := h
  unfold rItems
  have e : (pushed r v).2.2.2.toNat = r.2.2.2.toNat + 1 := by simp only [pushed]; omega
  rw [e, List.range_succ, List.map_append]
  congr 1
  · refine List.map_congr_left fun i hi => ?_
    rw [List.mem_range] at hi
    show (r.2.2.1.set (rSlot r r.2.2.2.toNat) v).getD (rSlot r i) 0 = _
    have hne : rSlot r r.2.2.2.toNat ≠ rSlot r i := fun e => by
      have := slot_inj (r := r) (by omega) (by omega) (by omega) e
      omega
    simp only [List.getD_eq_getElem?_getD, List.getElem?_set_ne hne]
  · show [(r.2.2.1.set (rSlot r r.2.2.2.toNat) v).getD (rSlot r r.2.2.2.toNat) 0] = [v]
    have hs := slot_lt (r := r) (by omega) r.2.2.2.toNat
    simp only [List.getD_eq_getElem?_getD, List.getElem?_set_self (show rSlot r r.2.2.2.toNat < r.2.2.1.length by omega), Option.getD_some]
theorem popped_ok {r : Rg} (h : rOK r) (hn : r.2.2.2 ≠ 0) : rOK (popped r) := by
  obtain ⟨h1, h2, h3, h4, h5, h6, h7⟩ := h
  have hs := slot_lt (r := r) (by omega) 1
  refine ⟨h1, h2, h3, ?_, ?_, ?_, ?_⟩
  · simp only [popped]; omega
  · simp only [popped]; omega
  · simp only [popped]; omega
  · simp only [popped]; omega
theorem popped_items {r : Rg} (h : rOK r) (hn : r.2.2.2 ≠ 0) : rItems r = first r :: rItems (popped r) := by
  obtain ⟨h1, h2, h3, h4, h5, h6, h7⟩ := h
  unfold rItems
  have e : r.2.2.2.toNat = (popped r).2.2.2.toNat + 1 := by simp only [popped]; omega
  rw [e, List.range_succ_eq_map, List.map_cons, List.map_map]
  congr 1
  refine List.map_congr_left fun i _ => ?_
  show r.2.2.1.getD (rSlot r (i + 1)) 0 = r.2.2.1.getD (rSlot (popped r) i) 0
  congr 1
  show (r.2.1.toNat + (i + 1)) % r.1.toNat = (((r.2.1.toNat + 1) % r.1.toNat : Nat) + i) % r.1.toNat
  rw [Nat.mod_add_mod]; congr 1; omega
end Go.Proofs.Ytgnellpcphepjaa.VX.VxD_C
