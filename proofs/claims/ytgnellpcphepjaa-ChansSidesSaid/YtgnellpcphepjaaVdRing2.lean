/- RingTells: the plain form answers true. -/
import Derived.Test.YtgnellpcphepjaaVdRing
import Derived.Test.YtgnellpcphepjaaVl2
set_option linter.unusedVariables false
set_option linter.unusedSimpArgs false
namespace Go.Proofs.Ytgnellpcphepjaa.VX.VxD_C
open Go.Proofs
theorem refItems_eq {r : Rg} (h : rOK r) : F_plaitref04_Items r = some (rItems r) := by
  unfold F_plaitref04_Items
  have hr := h
  obtain ⟨h1, h2, h3, h4, h5, h6, h7⟩ := h
  obtain ⟨n, hn⟩ := Int.eq_ofNat_of_zero_le h4
  have := loop_count (f := L_plaitref04_Items_4) n (fun k => ((k : Int), r, (List.range k).map fun i => r.2.2.1.getD (rSlot r i) 0)) (rItems r) (by
    intro k hk
    unfold L_plaitref04_Items_4
    simp only
    have hs : ((rSlot r k : Nat) : Int) = if r.2.1 + (k : Int) ≥ r.1 then r.2.1 + k - r.1 else r.2.1 + k := by
      unfold rSlot
      split
      · rw [Nat.mod_eq_sub_mod (by omega), Nat.mod_eq_of_lt (by omega)]; omega
      · rw [Nat.mod_eq_of_lt (by omega)]; omega
    have hlt := slot_lt (r := r) (by omega) k
    rw [bif_t (by simp; omega), wrapI (by omega) (by omega)]
    by_cases hc : r.2.1 + (k : Int) ≥ r.1
    · rw [if_pos hc] at hs
      rw [bif_t (by simpa using hc), wrapI (by omega) (by omega), ← hs, bif_t (inb_nat (by omega)), bif_t (fits_iff.2 (by simp; omega)), wrapI (by omega) (by omega), toN_nat, getAt_eq, List.range_succ, List.map_append]; rfl
    · rw [if_neg hc] at hs
      rw [bif_f (by simpa using hc), ← hs, bif_t (inb_nat (by omega)), bif_t (fits_iff.2 (by simp; omega)), wrapI (by omega) (by omega), toN_nat, getAt_eq, List.range_succ, List.map_append]; rfl) (by
    unfold L_plaitref04_Items_4
    simp only
    rw [bif_f (by simp; omega)]
    unfold rItems
    rw [hn]; rfl) 0 (Nat.zero_le _)
  rw [show loop L_plaitref04_Items_4 ((0 : Int), r, ([] : List Int)) = _ from this]
  rfl
theorem isLoop_eq {a b : List Int} (hl : a.length = b.length) (ha : a.length < 4611686018427387904) : loop L_plaitref04_Is_5 (b, a, (a.length : Int), 0) = some (if a = b then .inr () else .inl false) := by
  obtain ⟨y, h1, h2⟩ := loop_rule (f := L_plaitref04_Is_5) (fun x => ∃ k : Nat, x = (b, a, (a.length : Int), (k : Int)) ∧ k ≤ a.length ∧ a.take k = b.take k) (fun y => (y = .inl false ∧ a ≠ b) ∨ (y = .inr () ∧ a = b)) (fun x => a.length - x.2.2.2.toNat) (by
    rintro x ⟨k, rfl, hk, he⟩
    unfold L_plaitref04_Is_5
    simp only
    by_cases hlt : k < a.length
    · rw [bif_t (by simpa using hlt), bif_t (inb_nat hlt), bif_t (inb_nat (by omega)), toN_nat, getAtL _ hlt, getAtL _ (by omega : k < b.length)]
      by_cases hx : a[k] = b[k]'(by omega)
      · left
        rw [bif_f (by simp [hx])]
        refine ⟨_, rfl, ⟨k + 1, ?_, hlt, ?_⟩, ?_⟩
        · rw [wrapI (by omega) (by omega)]; rfl
        · rw [List.take_succ_eq_append_getElem hlt, List.take_succ_eq_append_getElem (by omega : k < b.length), he, hx]
        · rw [wrapI (by omega) (by omega)]; show a.length - ((k : Int) + 1).toNat < a.length - (k : Int).toNat; omega
      · right
        rw [bif_t (by simpa using hx)]
        exact ⟨_, rfl, .inl ⟨rfl, fun e => hx (by subst e; rfl)⟩⟩
    · right
      rw [bif_f (by simpa using hlt)]
      refine ⟨_, rfl, .inr ⟨rfl, ?_⟩⟩
      rwa [List.take_of_length_le (by omega), List.take_of_length_le (by omega)] at he) (b, a, (a.length : Int), 0) ⟨0, rfl, Nat.zero_le _, rfl⟩
  rw [h1]
  rcases h2 with ⟨rfl, h⟩ | ⟨rfl, h⟩
  · rw [if_neg h]
  · rw [if_pos h]
theorem is_true {r : Rg} (h : rOK r) {l : List Int} (hl : rItems r = l) : F_plaitref04_Is (r, r.1, l) = some true := by
  unfold F_plaitref04_Is
  simp only
  rw [rRefRight_eq]
  simp only [Option.bind_some]
  have hlen := items_len r
  have hh := h
  obtain ⟨h1, h2, h3, h4, h5, h6, h7⟩ := hh
  rw [bif_f (by simp [h]), bif_f (by simp), bif_f (by rw [← hl]; simp; omega), refItems_eq h]
  simp only [Option.bind_some]
  rw [hl, isLoop_eq rfl (by rw [← hl]; omega), if_pos rfl]
  rfl
theorem new_eq (n : Int) : F_ring_New n = some (if n < 0 ∨ n > 8 then (zeroR, 2) else ((n, 0, List.replicate n.toNat 0, 0), 0)) := by
  unfold F_ring_New
  by_cases h1 : n < 0
  · rw [bif_t (by simpa using h1), if_pos (.inl h1)]; rfl
  · rw [bif_f (by simpa using h1)]
    by_cases h2 : n > 8
    · rw [bif_t (by simpa using h2), if_pos (.inr h2)]; rfl
    · rw [bif_f (by simpa using h2), if_neg (by omega), bif_t (mkOK_iff.2 (by omega))]; rfl
theorem new_ok {n : Int} (h1 : 0 ≤ n) (h2 : n ≤ 8) : rOK (n, 0, List.replicate n.toNat 0, 0) := by
  refine ⟨h1, h2, ?_, ?_, ?_, ?_, ?_⟩ <;> simp <;> omega
end Go.Proofs.Ytgnellpcphepjaa.VX.VxD_C
