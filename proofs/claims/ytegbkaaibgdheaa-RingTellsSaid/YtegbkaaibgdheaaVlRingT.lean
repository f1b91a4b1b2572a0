/- RingTells: the plain form answers true. -/
import Derived.Test.YtegbkaaibgdheaaVlRingG
set_option linter.unusedVariables false
set_option linter.unusedSimpArgs false
namespace Go.Proofs.Ytegbkaaibgdheaa.VX.VxB_Ring
open Go.Proofs
theorem refItems_eq {r : Rg} (h : rOK r) : F_plaitref04_Items r = some (rItems r) := by
  unfold F_plaitref04_Items
  have hr := h
  obtain ⟨h1, h2, h3, h4, h5, h6, h7⟩ := h
  obtain ⟨n, hn⟩ := Int.eq_ofNat_of_zero_le h4
  have := loop_count (f := L_plaitref04_Items_4) n (fun k => ((k : Int), r, (List.range k).map fun i => r.2.2.1.getD (rSlot r i) 0)) (rItems r) (by
    intro k hk
    unfold L_plaitref04_Items_4
    simp only
    have hs : ((rSlot r k : Nat) : Int) = if r.2.1 + (k : Int) ≥ r.1 then r.2.1 + k - r.1 else r.2.1 + k := by
      unfold rSlot
      split
      · rw [Nat.mod_eq_sub_mod (by omega), Nat.mod_eq_of_lt (by omega)]; omega
      · rw [Nat.mod_eq_of_lt (by omega)]; omega
    have hlt := slot_lt (r := r) (by omega) k
    rw [bif_t (by simp; omega), wrapI (by omega) (by omega)]
    by_cases hc : r.2.1 + (k : Int) ≥ r.1
    · rw [if_pos hc] at hs
      rw [bif_t (by simpa using hc), wrapI (by omega) (by omega), ← hs, bif_t (inb_nat (by omega)), bif_t (fits_iff.2 (by simp; omega)), wrapI (by omega) (by omega), toN_nat, getAt_eq, List.range_succ, List.map_append]; rfl
    · rw [if_neg hc] at hs
      rw [bif_f (by simpa using hc), ← hs, bif_t (inb_nat (by omega)), bif_t (fits_iff.2 (by simp; omega)), wrapI (by omega) (by omega), toN_nat, getAt_eq, List.range_succ, List.map_append]; rfl) (by
    unfold L_plaitref04_Items_4
    simp only
    rw [bif_f (by simp; omega)]
    unfold rItems
    rw [hn]; rfl) 0 (Nat.zero_le _)
  rw [show loop L_plaitref04_Items_4 ((0 : Int), r, ([] : List Int)) = _ from this]
  rfl
theorem isLoop_eq {a b : List Int} (hl : a.length = b.length) (ha : a.length < 4611686018427387904) : loop L_plaitref04_Is_5 (b, a, (a.length : Int), 0) = some (if a = b then .inr () else .inl false) := by
  obtain ⟨y, h1, h2⟩ := loop_rule (f := L_plaitref04_Is_5) (fun x => ∃ k : Nat, x = (b, a, (a.length : Int), (k : Int)) ∧ k ≤ a.length ∧ a.take k = b.take k) (fun y => (y = .inl false ∧ a ≠ b) ∨ (y = .inr () ∧ a = b)) (fun x => a.length - x.2.2.2.toNat) (by
    rintro x ⟨k, rfl, hk, he⟩
    unfold L_plaitref04_Is_5
    simp only
    by_cases hlt : k < a.length
    · rw [bif_t (by simpa using hlt), bif_t (inb_nat hlt), bif_t (inb_nat (by omega)), toN_nat, getAtL _ hlt, getAtL _ (by omega : k < b.length)]
      by_cases hx : a[k] = b[k]'(by omega)
      · left
        rw [bif_f (by simp [hx])]
        refine ⟨_, rfl, ⟨k + 1, ?_, hlt, ?_⟩, ?_⟩
        · rw [wrapI (by omega) (by omega)]; rfl
        · rw [List.take_succ_eq_append_getElem hlt, List.take_succ_eq_append_getElem (by omega : k < b.length), he, hx]
        · rw [wrapI (by omega) (by omega)]; show a.length - ((k : Int) + 1).toNat < a.length - (k : Int).toNat; omega
      · right
        rw [bif_t (by simpa using hx)]
        exact ⟨_, rfl, .inl ⟨rfl, fun e => hx (by subst e; rfl)⟩⟩
    · right
      rw [bif_f (by simpa using hlt)]
      refine ⟨_, rfl, .inr ⟨rfl, ?_⟩⟩
      rwa [List.take_of_length_le (by omega), List.take_of_length_le (by omega)] at he) (b, a, (a.length : Int), 0) ⟨0, rfl, Nat.zero_le _, rfl⟩
  rw [h1]
  rcases h2 with ⟨rfl, h⟩ | ⟨rfl, h⟩
  · rw [if_neg h]
  · rw [if_pos h]
theorem is_true {r : Rg} (h : rOK r) {l : List Int} (hl : rItems r = l) : F_plaitref04_Is (r, r.1, l) = some true := by
  unfold F_plaitref04_Is
  simp only
  rw [refRight_eq]
  simp only [Option.bind_some]
  have hlen := items_len r
  have hh := h
  obtain ⟨h1, h2, h3, h4, h5, h6, h7⟩ := hh
  rw [bif_f (by simp [h]), bif_f (by simp), bif_f (by rw [← hl]; simp; omega), refItems_eq h]
  simp only [Option.bind_some]
  rw [hl, isLoop_eq rfl (by rw [← hl]; omega), if_pos rfl]
  rfl
theorem new_eq (n : Int) : F_ring_New n = some (if n < 0 ∨ n > 8 then (zeroR, 2) else ((n, 0, List.replicate n.toNat 0, 0), 0)) := by
  unfold F_ring_New
  by_cases h1 : n < 0
  · rw [bif_t (by simpa using h1), if_pos (.inl h1)]; rfl
  · rw [bif_f (by simpa using h1)]
    by_cases h2 : n > 8
    · rw [bif_t (by simpa using h2), if_pos (.inr h2)]; rfl
    · rw [bif_f (by simpa using h2), if_neg (by omega), bif_t (mkOK_iff.2 (by omega))]; rfl
theorem new_ok {n : Int} (h1 : 0 ≤ n) (h2 : n ≤ 8) : rOK (n, 0, List.replicate n.toNat 0, 0) := by
  refine ⟨h1, h2, ?_, ?_, ?_, ?_, ?_⟩ <;> simp <;> omega
theorem ringTells (r : Rg) (n v : Int) : F_plaitlaw04_RingTells (r, n, v) = some true := by
  unfold F_plaitlaw04_RingTells
  simp only
  have hfew := few_eq r
  generalize (r.1, r.2.1, r.2.2.1.take 12, r.2.2.2) = r' at hfew
  rw [hfew]
  simp only [Option.bind_some]
  rw [new_eq, push_eq, pop_eq, items_eq, grow_eq, right_eq, refRight_eq]
  simp only [Option.bind_some]
  rw [bif_f (by simp [Ty.beq]), alive_eq]
  simp only [Option.bind_some]
  rw [bif_f (by rfl)]
  have hz : F_plaitlaw04_empty zeroR = some true := by rw [empty_eq]; rfl
  by_cases h : rOK r'
  · have hlen := items_len r'
    have hh := h
    obtain ⟨h1, h2, h3, h4, h5, h6, h7⟩ := hh
    have hri := refItems_eq h
    have hrows : F_plaitref01_Rows (rItems r', rItems r') = some true := by rw [rows_eq (by omega)]; simp
    have hpush : r'.2.2.2 ≠ r'.1 → F_plaitref04_Is (pushed r' v, r'.1, rItems r' ++ [v]) = some true := fun hn => is_true (r := pushed r' v) (pushed_ok h hn v) (pushed_items h hn v)
    have hpop : r'.2.2.2 ≠ 0 → F_plaitref04_Is (popped r', r'.1, rItems (popped r')) = some true := fun hn => is_true (r := popped r') (popped_ok h hn) rfl
    have hgrow : ((rItems r').length : Int) ≤ n → n ≤ 8 → F_plaitref04_Is (grown r' n, n, rItems r') = some true := fun a b => is_true (r := grown r' n) (grown_ok h a b) (grown_items h a)
    have hnew : 0 ≤ n → n ≤ 8 → F_plaitref04_Is ((n, 0, List.replicate n.toNat 0, 0), n, []) = some true := fun a b => is_true (r := (n, 0, List.replicate n.toNat 0, 0)) (new_ok a b) rfl
    rw [if_pos h, if_pos h, if_pos h, if_pos h]
    have hcount : ((rItems r').length : Int) = r'.2.2.2 := by omega
    have hitems : r'.2.2.2 ≠ 0 → rItems r' = first r' :: rItems (popped r') := fun hn => popped_items h hn
    rw [decide_eq_true h]
    generalize hL : rItems r' = L at *
    have e1 : ((L.length : Int) == r'.1) = decide (r'.2.2.2 = r'.1) := by rw [hcount]; rfl
    have e2 : ((L.length : Int) == 0) = decide (r'.2.2.2 = 0) := by rw [hcount]; rfl
    have hcap : fits (0 + L.length) = true := fits_iff.2 (by omega)
    have hcap2 : fits (L.length + 1) = true := fits_iff.2 (by omega)
    have f1 : decide (n < 0) = false → decide (n > 8) = false → F_plaitref04_Is ((n, 0, List.replicate n.toNat 0, 0), n, []) = some true := fun a b => hnew (by simpa using a) (by simpa using b)
    have f2 : decide (r'.2.2.2 = r'.1) = false → F_plaitref04_Is (pushed r' v, r'.1, L ++ [v]) = some true := fun a => hpush (by simpa using a)
    have f3 : decide (n < (L.length : Int)) = false → decide (n > 8) = false → F_plaitref04_Is (grown r' n, n, L) = some true := fun a b => hgrow (by simpa using a) (by simpa using b)
    have f4 : decide (r'.2.2.2 = 0) = false → inb 0 L.length = true ∧ getAt 0 L (toN 0) = first r' ∧ sub3 1 (L.length : Int) L.length = true ∧ F_plaitref04_Is (popped r', r'.1, cut L (toN 1) (toN (L.length : Int) - toN 1)) = some true := by
      intro a
      have a : r'.2.2.2 ≠ 0 := by simpa using a
      refine ⟨inbL.2 (by omega), by rw [hitems a]; rfl, sub3L.2 (by omega), ?_⟩
      have : cut L (toN 1) (toN (L.length : Int) - toN 1) = rItems (popped r') := by rw [hitems a]; simp [cut, toN]
      rw [this]; exact hpop a
    have f5 : decide (n < 0) = true → decide (n < (L.length : Int)) = true := by simp; omega
    clear hpush hpop hgrow hnew hitems hcount hlen h1 h2 h3 h4 h5 h6 h7
    simp only [← Bool.cond_decide, Bool.decide_or, hri, hrows, Option.bind_some, e1, e2, List.length_nil, List.nil_append, List.length_singleton, hcap, hcap2]
    generalize decide (n < 0) = B1 at *
    generalize decide (n > 8) = B2 at *
    generalize decide (r'.2.2.2 = r'.1) = B3 at *
    generalize decide (r'.2.2.2 = 0) = B4 at *
    generalize decide (n < (L.length : Int)) = B5 at *
    cases B4
    · obtain ⟨g1, g2, g3, g4⟩ := f4 rfl
      rw [g1, g2, g3]
      simp only [cond_false, cond_true, g4, Option.bind_some]
      cases B1 <;> cases B2 <;> cases B3 <;> cases B5 <;> simp_all
    · cases B1 <;> cases B2 <;> cases B3 <;> cases B5 <;> simp_all
  · rw [if_neg h, if_neg h, if_neg h, if_neg h]
    by_cases a1 : n < 0
    · simp [h, hz, a1]
    · by_cases a2 : n > 8
      · simp [h, hz, a1, a2]
      · have hI : F_plaitref04_Is ((n, 0, List.replicate n.toNat 0, 0), n, []) = some true := is_true (r := (n, 0, List.replicate n.toNat 0, 0)) (new_ok (by omega) (by omega)) rfl
        simp [h, hz, a1, a2, hI]
theorem ringTells_law (x : HL [(.pair (.int .i64) (.pair (.int .i64) (.pair (.slice (.int .i64)) (.int .i64)))), (.int .i64), (.int .i64)]) (h : wfHL [(.pair (.int .i64) (.pair (.int .i64) (.pair (.slice (.int .i64)) (.int .i64)))), (.int .i64), (.int .i64)] x) : F_plaitlaw04_RingTells x = some true :=
  ringTells x.1 x.2.1 x.2.2
end Go.Proofs.Ytegbkaaibgdheaa.VX.VxB_Ring
