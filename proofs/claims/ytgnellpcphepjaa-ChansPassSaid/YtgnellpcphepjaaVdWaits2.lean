/- Plain laws of waits, more: coming, being found, going. -/
import Derived.Test.YtgnellpcphepjaaVdWaits
set_option linter.unusedVariables false
set_option linter.unusedSimpArgs false
namespace Go.Proofs.Ytgnellpcphepjaa.VX.VxD_C
open Go.Proofs
theorem wclone_eq (l : List W) (h : l.length ≤ 4294967296) : F_slices_Clone_api_Wait l = some l := by
  unfold F_slices_Clone_api_Wait
  by_cases hl : l.length = 0
  · obtain rfl : l = [] := List.length_eq_zero_iff.1 hl
    rw [bif_t (by rfl), bif_t (by rfl)]
    show amb (some []) (some []) = _
    unfold amb
    rw [if_pos rfl]
  · rw [bif_f (by
      cases hb : Nat.beq l.length 0 with
      | false => rfl
      | true => exact absurd (Nat.eq_of_beq_eq_true hb) hl), bif_t (fits_iff.2 (by simpa using h))]
    rfl
theorem wpush_eq (l : List W) (w : W) (hl : l.length < 4611686018427387904) : F_waits_Push (l, w) = some (if wOK l then (if isW w then (if keyW w ∈ l.map keyW then ([], 7) else if l.length = 64 then ([], 5) else (l ++ [w], 0)) else ([], 1)) else ([], 1)) := by
  unfold F_waits_Push
  simp only
  rw [wRight_eq l hl]
  simp only [Option.bind_some]
  by_cases h1 : wOK l
  · rw [bif_f (by simp [h1]), if_pos h1, isWait_eq]
    simp only [Option.bind_some]
    by_cases h2 : isW w
    · rw [bif_f (by simp [h2]), if_pos h2, met_eq l hl]
      simp only [Option.bind_some]
      have hc := mets_count l (keyW w)
      show (bif decide (mlook eqK (0 : Int) (keyW w) (mets l) > 0) then _ else _) = _
      rw [hc]
      by_cases h3 : keyW w ∈ l.map keyW
      · rw [bif_t (by have := List.count_pos_iff.2 h3; simp; simpa using h3), if_pos h3]
      · rw [bif_f (by have := List.count_eq_zero.2 h3; simp [this]), if_neg h3]
        obtain ⟨_, h4, _⟩ := h1
        by_cases h5 : l.length = 64
        · rw [bif_t (by simp [h5]), if_pos h5]
        · rw [bif_f (by simp; omega), if_neg h5, wclone_eq l (by omega)]
          simp only [Option.bind_some]
          rw [bif_t (fits_iff.2 (by simp; omega))]
    · rw [bif_t (by simp [h2]), if_neg h2]
  · rw [bif_t (by simp [h1]), if_neg h1]
def zeroW : W := (0, 0, 0)
def notG (g : Int) (w : W) : Bool := w.1 != g
theorem wfirst_eq (l : List W) (g : Int) (hl : l.length < 4611686018427387904) : F_waits_First (l, g) = some (if wOK l then (if g < 0 then (zeroW, (1 : Int)) else match l.findIdx? (notG g) with | some i => (l.getD i zeroW, (0 : Int)) | none => (zeroW, (4 : Int))) else (zeroW, (1 : Int))) := by
  unfold F_waits_First
  simp only
  rw [wRight_eq l hl]
  simp only [Option.bind_some]
  by_cases h1 : wOK l
  · rw [bif_f (by simp [h1]), if_pos h1]
    by_cases h2 : g < 0
    · rw [bif_t (by simpa using h2), if_pos h2]; rfl
    · rw [bif_f (by simpa using h2), if_neg h2]
      have := loop_find (f := L_slices_IndexFunc_api_Wait__waits_First_1_3) l (notG g) (fun k => (l, (l.length : Int), (k : Int), g)) (fun k => .inl ((k : Int), g)) (.inr g) (by
        intro k hk
        unfold L_slices_IndexFunc_api_Wait__waits_First_1_3 F_waits_First_1
        simp only
        rw [bif_t (by simpa using hk), bif_t (inb_nat hk), toN_nat, getAtL _ hk]
        simp only [Option.bind_some]
        rw [wrapI (by omega) (by omega)]
        show (bif notG g l[k] then _ else _) = _
        cases h : notG g l[k] <;> rfl) (by
        unfold L_slices_IndexFunc_api_Wait__waits_First_1_3
        simp only
        rw [bif_f (by simp)])
      unfold F_slices_IndexFunc_api_Wait__waits_First_1
      simp only
      rw [show loop L_slices_IndexFunc_api_Wait__waits_First_1_3 (l, (l.length : Int), (0 : Int), g) = _ from this]
      cases hf : l.findIdx? (notG g) with
      | none => rfl
      | some i =>
        obtain ⟨hi, _⟩ := List.findIdx?_eq_some_iff_getElem.1 hf
        simp only [Option.bind_some]
        rw [bif_f (by simp), bif_t (inb_nat hi), toN_nat, getAt_eq]
        rfl
  · rw [bif_t (by simp [h1]), if_neg h1]; rfl
theorem ixDrop_eq (l : List W) (g : Int) (hl : l.length < 4611686018427387904) : F_slices_IndexFunc_api_Wait__waits_Drop_1_lent (l, g) = some (match l.findIdx? (fun w => w.1 == g) with | some i => ((i : Int), l, g) | none => (Int.negSucc 0, l, g)) := by
  have := loop_find (f := L_slices_IndexFunc_api_Wait__waits_Drop_1_lent_3) l (fun w => w.1 == g) (fun k => ((l.length : Int), (k : Int), l, g)) (fun k => .inl ((k : Int), l, g)) (.inr (l, g)) (by
    intro k hk
    unfold L_slices_IndexFunc_api_Wait__waits_Drop_1_lent_3 F_waits_Drop_1
    simp only
    rw [bif_t (by simpa using hk), bif_t (inb_nat hk), toN_nat, getAtL _ hk]
    simp only [Option.bind_some]
    rw [wrapI (by omega) (by omega)]
    cases h : (l[k].1 == g) <;> rfl) (by
    unfold L_slices_IndexFunc_api_Wait__waits_Drop_1_lent_3
    simp only
    rw [bif_f (by simp)])
  unfold F_slices_IndexFunc_api_Wait__waits_Drop_1_lent
  simp only
  rw [show loop L_slices_IndexFunc_api_Wait__waits_Drop_1_lent_3 ((l.length : Int), (0 : Int), l, g) = _ from this]
  cases l.findIdx? fun w => w.1 == g <;> rfl
theorem delete_eq (l : List W) (g : Int) (hl : l.length ≤ 64) : F_slices_DeleteFunc_api_Wait__waits_Drop_1 (g, l) = some (l.filter (notG g), g) := by
  unfold F_slices_DeleteFunc_api_Wait__waits_Drop_1
  simp only
  rw [ixDrop_eq l g (by omega)]
  simp only [Option.bind_some]
  cases hf : l.findIdx? (fun w => w.1 == g) with
  | none =>
    rw [List.findIdx?_eq_none_iff] at hf
    rw [bif_t (by rfl)]
    have : l.filter (notG g) = l := List.filter_eq_self.2 fun w hw => by have := hf w hw; simpa [notG] using this
    rw [this]
  | some i =>
    obtain ⟨hi, hp, hq⟩ := List.findIdx?_eq_some_iff_getElem.1 hf
    simp only
    rw [bif_f (by simp), wrapI (by omega) (by omega)]
    obtain ⟨y, y1, y2⟩ := loop_rule (f := L_slices_DeleteFunc_api_Wait__waits_Drop_1_6) (fun x => ∃ (a b : Nat) (s : List W), x = ((a : Int), (b : Int), g, s) ∧ a ≤ b ∧ b ≤ l.length ∧ s.length = l.length ∧ s.take a = (l.take b).filter (notG g) ∧ s.drop b = l.drop b)
      (fun y => ∃ (a : Nat) (s : List W), y = ((a : Int), g, s) ∧ a ≤ l.length ∧ s.length = l.length ∧ s.take a = l.filter (notG g)) (fun x => l.length - x.2.1.toNat) (by
      rintro x ⟨a, b, s, rfl, hab, hb, hs, h1, h2⟩
      unfold L_slices_DeleteFunc_api_Wait__waits_Drop_1_6 F_waits_Drop_1
      simp only
      by_cases hlt : b < l.length
      · left
        have hsb : s[b]'(by omega) = l[b] := by
          have e1 := List.getElem_drop (xs := s) (i := b) (j := 0) (h := by simp; omega)
          have e2 := List.getElem_drop (xs := l) (i := b) (j := 0) (h := by simp; omega)
          simp only [h2, Nat.add_zero] at e1 e2
          rw [← e1, ← e2]
        rw [bif_t (by simp; omega), bif_t (inb_nat (by omega)), toN_nat, getAtL _ (by omega : b < s.length), hsb]
        simp only [Option.bind_some]
        rw [wrapI (n := (b : Int) + 1) (by omega) (by omega)]
        by_cases hg : l[b].1 = g
        · rw [bif_f (by simp [hg])]
          refine ⟨_, rfl, ⟨a, b + 1, s, rfl, by omega, hlt, hs, ?_, ?_⟩, ?_⟩
          · rw [h1, List.take_succ_eq_append_getElem hlt, List.filter_append]
            simp [notG, hg]
          · rw [← List.drop_drop (i := 1) (j := b), ← List.drop_drop (i := 1) (j := b), h2]
          · show l.length - ((b : Int) + 1).toNat < l.length - (b : Int).toNat; omega
        · rw [bif_t (by simp [hg]), bif_t (inb_nat (by omega)), toN_nat, wrapI (n := (a : Int) + 1) (by omega) (by omega)]
          refine ⟨_, rfl, ⟨a + 1, b + 1, s.set a l[b], rfl, by omega, hlt, by simpa using hs, ?_, ?_⟩, ?_⟩
          · rw [List.take_succ_eq_append_getElem (by simp; omega), List.take_set_of_le (Nat.le_refl a), h1, List.take_succ_eq_append_getElem hlt, List.filter_append]
            have : notG g l[b] = true := by simpa [notG] using hg
            simp [this]
          · rw [List.drop_set_of_lt (by omega), ← List.drop_drop (i := 1) (j := b), ← List.drop_drop (i := 1) (j := b), h2]
          · show l.length - ((b : Int) + 1).toNat < l.length - (b : Int).toNat; omega
      · right
        rw [bif_f (by simp; omega)]
        refine ⟨_, rfl, a, s, rfl, by omega, hs, ?_⟩
        rw [h1, List.take_of_length_le (by omega)]) ((i : Int), (i : Int) + 1, g, l) ⟨i, i + 1, l, rfl, by omega, hi, rfl, by
        rw [List.take_succ_eq_append_getElem hi, List.filter_append]
        have : (l.take i).filter (notG g) = l.take i := List.filter_eq_self.2 fun w hw => by
          obtain ⟨j, hj, rfl⟩ := List.getElem_of_mem hw
          have hj2 : j < i := by simp at hj; omega
          have := hq j hj2
          simp only [List.getElem_take]
          simpa [notG] using this
        rw [this]
        have hp : l[i].1 = g := by simpa using hp
        simp [notG, hp], rfl⟩
    rw [y1]
    obtain ⟨a, s, rfl, h1, h2, h3⟩ := y2
    simp only [Option.bind_some]
    rw [bif_t (sub3L.2 (by omega))]
    have hov : ∀ (z : List W), z.length = s.length - a → (over s z a (s.length - a)).length = s.length ∧ (over s z a (s.length - a)).take a = s.take a := by
      intro z hz
      unfold over
      constructor
      · simp; omega
      · rw [List.append_assoc, List.take_append_of_le_length (by simp; omega), List.take_of_length_le (by simp; omega)]
    have hz := hov (List.replicate (s.length - a) ((0 : Int), (0 : Int), (0 : Int))) (by simp)
    have e1 : toN (s.length : Int) - toN (a : Int) = s.length - a := rfl
    have e2 : toN (a : Int) = a := rfl
    rw [e1, e2]
    rw [bif_t (sub3L.2 (by rw [hz.1]; omega))]
    have : cut (over s (List.replicate (s.length - a) ((0 : Int), (0 : Int), (0 : Int))) a (s.length - a)) (toN 0) (a - toN 0) = l.filter (notG g) := by
      unfold cut
      show ((over s _ a (s.length - a)).drop 0).take a = _
      rw [List.drop_zero, hz.2, h3]
    rw [this]
theorem wdrop_eq (l : List W) (g : Int) (hl : l.length < 4611686018427387904) : F_waits_Drop (l, g) = some (if wOK l then (if g < 0 then ([], 1) else (l.filter (notG g), 0)) else ([], 1)) := by
  unfold F_waits_Drop
  simp only
  rw [wRight_eq l hl]
  simp only [Option.bind_some]
  by_cases h1 : wOK l
  · rw [bif_f (by simp [h1]), if_pos h1]
    by_cases h2 : g < 0
    · rw [bif_t (by simpa using h2), if_pos h2]
    · obtain ⟨_, h4, _⟩ := h1
      rw [bif_f (by simpa using h2), if_neg h2, wclone_eq l (by omega)]
      simp only [Option.bind_some]
      rw [delete_eq l g h4]
      rfl
  · rw [bif_t (by simp [h1]), if_neg h1]
end Go.Proofs.Ytgnellpcphepjaa.VX.VxD_C
