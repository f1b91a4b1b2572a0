/- Plain laws: rows that are looked at and kept. -/
import Derived.Test.YtegbkaaibgdheaaVoWaits3
set_option linter.unusedVariables false
set_option linter.unusedSimpArgs false
namespace Go.Proofs.Ytegbkaaibgdheaa.VX.VxB_O
open Go.Proofs
theorem rowsL_eq {a b : List Int} (ha : a.length < 4611686018427387904) : F_plaitref01_Rows_lent1 (a, b) = some (decide (a = b), b) := by
  unfold F_plaitref01_Rows_lent1
  simp only
  by_cases hl : a.length = b.length
  · rw [bif_f (by simp [hl])]
    obtain ⟨y, h1, h2⟩ := loop_rule (f := L_plaitref01_Rows_lent1_5) (fun x => ∃ k : Nat, x = (a, (a.length : Int), (k : Int), b) ∧ k ≤ a.length ∧ a.take k = b.take k) (fun y => (y = .inl (false, b) ∧ a ≠ b) ∨ (y = .inr b ∧ a = b)) (fun x => a.length - x.2.2.1.toNat) (by
      rintro x ⟨k, rfl, hk, he⟩
      unfold L_plaitref01_Rows_lent1_5
      simp only
      by_cases hlt : k < a.length
      · rw [bif_t (by simpa using hlt), bif_t (inb_nat hlt), bif_t (inb_nat (by omega)), toN_nat, getAtL _ hlt, getAtL _ (by omega : k < b.length)]
        by_cases hx : a[k] = b[k]'(by omega)
        · left
          rw [bif_f (by simp [hx])]
          refine ⟨_, rfl, ⟨k + 1, ?_, hlt, ?_⟩, ?_⟩
          · rw [wrapI (by omega) (by omega)]; rfl
          · rw [List.take_succ_eq_append_getElem hlt, List.take_succ_eq_append_getElem (by omega : k < b.length), he, hx]
          · rw [wrapI (by omega) (by omega)]; show a.length - ((k : Int) + 1).toNat < a.length - (k : Int).toNat; omega
        · right
          rw [bif_t (by simpa using hx)]
          exact ⟨_, rfl, .inl ⟨rfl, fun e => hx (by subst e; rfl)⟩⟩
      · right
        rw [bif_f (by simpa using hlt)]
        refine ⟨_, rfl, .inr ⟨rfl, ?_⟩⟩
        rwa [List.take_of_length_le (by omega), List.take_of_length_le (by omega)] at he) (a, (a.length : Int), (0 : Int), b) ⟨0, rfl, Nat.zero_le _, rfl⟩
    rw [h1]
    rcases h2 with ⟨rfl, h⟩ | ⟨rfl, h⟩
    · simp [h]
    · simp [h]
  · rw [bif_t (by simp; omega)]
    have : a ≠ b := fun e => hl (by rw [e])
    simp [this]
theorem sameL_eq {a b : List W} (ha : a.length < 4611686018427387904) : F_plaitref05_Same_lent1 (a, b) = some (decide (a = b), b) := by
  unfold F_plaitref05_Same_lent1
  simp only
  by_cases hl : a.length = b.length
  · rw [bif_f (by simp [hl])]
    obtain ⟨y, h1, h2⟩ := loop_rule (f := L_plaitref05_Same_lent1_5) (fun x => ∃ k : Nat, x = (a, (a.length : Int), (k : Int), b) ∧ k ≤ a.length ∧ a.take k = b.take k) (fun y => (y = .inl (false, b) ∧ a ≠ b) ∨ (y = .inr b ∧ a = b)) (fun x => a.length - x.2.2.1.toNat) (by
      rintro x ⟨k, rfl, hk, he⟩
      unfold L_plaitref05_Same_lent1_5
      simp only
      by_cases hlt : k < a.length
      · rw [bif_t (by simpa using hlt), bif_t (inb_nat hlt), bif_t (inb_nat (by omega)), toN_nat]
        have g1 : getAt zeroW a k = a[k] := getAtL _ hlt
        have g2 : getAt zeroW b k = b[k]'(by omega) := getAtL _ (by omega)
        by_cases hx : a[k] = b[k]'(by omega)
        · left
          have hq : eqW (getAt zeroW a k) (getAt zeroW b k) = true := by rw [g1, g2]; exact (eqW_iff _ _).2 hx
          refine ⟨(a, (a.length : Int), IntKind.wrap .i64 ((k : Int) + 1), b), bif_f (congrArg Bool.not hq), ⟨k + 1, ?_, hlt, ?_⟩, ?_⟩
          · rw [wrapI (by omega) (by omega)]; rfl
          · rw [List.take_succ_eq_append_getElem hlt, List.take_succ_eq_append_getElem (by omega : k < b.length), he, hx]
          · rw [wrapI (by omega) (by omega)]; show a.length - ((k : Int) + 1).toNat < a.length - (k : Int).toNat; omega
        · right
          have hq : eqW (getAt zeroW a k) (getAt zeroW b k) = false := by
            rw [g1, g2]
            cases h : eqW a[k] (b[k]'(by omega)) with
            | false => rfl
            | true => exact absurd ((eqW_iff _ _).1 h) hx
          exact ⟨.inl (false, b), bif_t (congrArg Bool.not hq), .inl ⟨rfl, fun e => hx (by subst e; rfl)⟩⟩
      · right
        rw [bif_f (by simpa using hlt)]
        refine ⟨_, rfl, .inr ⟨rfl, ?_⟩⟩
        rwa [List.take_of_length_le (by omega), List.take_of_length_le (by omega)] at he) (a, (a.length : Int), (0 : Int), b) ⟨0, rfl, Nat.zero_le _, rfl⟩
    rw [h1]
    rcases h2 with ⟨rfl, h⟩ | ⟨rfl, h⟩
    · simp [h]
    · simp [h]
  · rw [bif_t (by simp; omega)]
    have : a ≠ b := fun e => hl (by rw [e])
    simp [this]
theorem decF2 {α : Type} {p : Prop} {i : Decidable p} {l : α} (h : ¬ p) : some (false, l) = some (@decide p i, l) := by rw [decide_eq_false h]
theorem decT2 {α : Type} {p : Prop} {i : Decidable p} {l : α} (h : p) : some (true, l) = some (@decide p i, l) := by rw [decide_eq_true h]
theorem hasL_eq (l : List W) (g k : Int) (hl : l.length < 4611686018427387904) : F_plaitref05_Has_lent (g, k, l) = some (decide ((g, k) ∈ l.map keyW), l) := by
  have := loop_find (f := L_plaitref05_Has_lent_3) l (fun w => w.1 == g && w.2.1 == k) (fun i => (g, k, (l.length : Int), (i : Int), l)) (fun i => .inl (true, l)) (.inr l) (by
    intro i hk
    unfold L_plaitref05_Has_lent_3
    simp only
    rw [bif_t (by simpa using hk), bif_t (inb_nat hk), toN_nat, getAtL _ hk, wrapI (by omega) (by omega)]
    cases h1 : (l[i].1 == g) <;> cases h2 : (l[i].2.1 == k) <;> rfl) (by
    unfold L_plaitref05_Has_lent_3
    simp only
    rw [bif_f (by simp)])
  unfold F_plaitref05_Has_lent
  simp only
  rw [show loop L_plaitref05_Has_lent_3 (g, k, (l.length : Int), (0 : Int), l) = _ from this]
  cases hf : l.findIdx? (fun w => w.1 == g && w.2.1 == k) with
  | none =>
    rw [List.findIdx?_eq_none_iff] at hf
    refine decF2 ?_
    rw [List.mem_map]
    rintro ⟨w, hw, e⟩
    have h := hf w hw
    unfold keyW at e
    cases e
    simp at h
  | some i =>
    obtain ⟨hi, hp, _⟩ := List.findIdx?_eq_some_iff_getElem.1 hf
    refine decT2 ?_
    rw [List.mem_map]
    refine ⟨l[i], List.getElem_mem hi, ?_⟩
    simp only [Bool.and_eq_true, beq_iff_eq] at hp
    unfold keyW
    rw [hp.1, hp.2]
theorem dropL_eq (l : List W) (g : Int) (hl : l.length ≤ 4294967296) : F_plaitref05_Drop_lent (g, l) = some (l, l.filter (notG g)) := by
  have := loop_count (f := L_plaitref05_Drop_lent_4) l.length (fun i => (g, (l.length : Int), (i : Int), l, (l.take i).filter (notG g))) (l, l.filter (notG g)) (by
    intro i hk
    unfold L_plaitref05_Drop_lent_4
    simp only
    rw [bif_t (by simpa using hk), bif_t (inb_nat hk), toN_nat, getAtL _ hk, wrapI (by omega) (by omega), List.take_succ_eq_append_getElem hk, List.filter_append]
    have hle := List.length_filter_le (notG g) (l.take i)
    rw [bif_t (x := some (Sum.inl (g, (l.length : Int), (i : Int) + 1, l, (l.take i).filter (notG g) ++ [l[i]]))) (fits_iff.2 (by simp at hle ⊢; omega))]
    show (bif notG g l[i] then _ else _) = _
    cases h : notG g l[i] with
    | true => rw [cond_true]; simp [h]
    | false => rw [cond_false]; simp [h]) (by
    unfold L_plaitref05_Drop_lent_4
    simp only
    rw [bif_f (by simp), List.take_length]) 0 (Nat.zero_le _)
  unfold F_plaitref05_Drop_lent
  simp only
  rw [show loop L_plaitref05_Drop_lent_4 (g, (l.length : Int), (0 : Int), l, ([] : List (Int × (Int × Int)))) = _ from this]
  rfl
end Go.Proofs.Ytegbkaaibgdheaa.VX.VxB_O
