/- Plain laws of waits: the references, and who waits. -/
import Derived.Test.YtgnellpcphepjaaVdWaits2
set_option linter.unusedVariables false
set_option linter.unusedSimpArgs false
namespace Go.Proofs.Ytgnellpcphepjaa.VX.VxD_C
open Go.Proofs
def eqW : W → W → Bool := Ty.beq (.pair (.int .i64) (.pair (.int .i64) (.int .i64)))
theorem eqW_iff (a b : W) : eqW a b = true ↔ a = b := by
  show (a.1 == b.1 && (a.2.1 == b.2.1 && a.2.2 == b.2.2)) = true ↔ a = b
  rw [Bool.and_eq_true, Bool.and_eq_true, beq_iff_eq, beq_iff_eq, beq_iff_eq, Prod.ext_iff, Prod.ext_iff]
theorem same_eq {a b : List W} (ha : a.length < 4611686018427387904) : F_plaitref05_Same (a, b) = some (decide (a = b)) := by
  unfold F_plaitref05_Same
  simp only
  by_cases hl : a.length = b.length
  · rw [bif_f (by simp [hl])]
    obtain ⟨y, h1, h2⟩ := loop_rule (f := L_plaitref05_Same_5) (fun x => ∃ k : Nat, x = (a, b, (a.length : Int), (k : Int)) ∧ k ≤ a.length ∧ a.take k = b.take k) (fun y => (y = .inl false ∧ a ≠ b) ∨ (y = .inr () ∧ a = b)) (fun x => a.length - x.2.2.2.toNat) (by
      rintro x ⟨k, rfl, hk, he⟩
      unfold L_plaitref05_Same_5
      simp only
      by_cases hlt : k < a.length
      · rw [bif_t (by simpa using hlt), bif_t (inb_nat hlt), bif_t (inb_nat (by omega)), toN_nat]
        have g1 : getAt zeroW a k = a[k] := getAtL _ hlt
        have g2 : getAt zeroW b k = b[k]'(by omega) := getAtL _ (by omega)
        by_cases hx : a[k] = b[k]'(by omega)
        · left
          have hq : eqW (getAt zeroW a k) (getAt zeroW b k) = true := by rw [g1, g2]; exact (eqW_iff _ _).2 hx
          refine ⟨(a, b, (a.length : Int), IntKind.wrap .i64 ((k : Int) + 1)), bif_f (congrArg Bool.not hq), ⟨k + 1, ?_, hlt, ?_⟩, ?_⟩
          · rw [wrapI (by omega) (by omega)]; rfl
          · rw [List.take_succ_eq_append_getElem hlt, List.take_succ_eq_append_getElem (by omega : k < b.length), he, hx]
          · rw [wrapI (by omega) (by omega)]; show a.length - ((k : Int) + 1).toNat < a.length - (k : Int).toNat; omega
        · right
          have hq : eqW (getAt zeroW a k) (getAt zeroW b k) = false := by
            rw [g1, g2]
            cases h : eqW a[k] (b[k]'(by omega)) with
            | false => rfl
            | true => exact absurd ((eqW_iff _ _).1 h) hx
          exact ⟨.inl false, bif_t (congrArg Bool.not hq), .inl ⟨rfl, fun e => hx (by subst e; rfl)⟩⟩
      · right
        rw [bif_f (by simpa using hlt)]
        refine ⟨_, rfl, .inr ⟨rfl, ?_⟩⟩
        rwa [List.take_of_length_le (by omega), List.take_of_length_le (by omega)] at he) (a, b, (a.length : Int), 0) ⟨0, rfl, Nat.zero_le _, rfl⟩
    rw [h1]
    rcases h2 with ⟨rfl, h⟩ | ⟨rfl, h⟩
    · simp [h]
    · simp [h]
  · rw [bif_t (by simp; omega)]
    have : a ≠ b := fun e => hl (by rw [e])
    simp [this]
theorem may_eq (w : W) : F_plaitref05_May w = some (decide (isW w)) := by
  simp only [F_plaitref05_May, isW, cond_eq_ite, decide_eq_true_eq]
  repeat' split
  all_goals first | exact decF (by omega) | exact decT (by omega) | exact decE (by omega)
theorem has_eq (l : List W) (g k : Int) (hl : l.length < 4611686018427387904) : F_plaitref05_Has (l, g, k) = some (decide ((g, k) ∈ l.map keyW)) := by
  have := loop_find (f := L_plaitref05_Has_3) l (fun w => w.1 == g && w.2.1 == k) (fun i => (g, k, l, (l.length : Int), (i : Int))) (fun i => .inl true) (.inr ()) (by
    intro i hk
    unfold L_plaitref05_Has_3
    simp only
    rw [bif_t (by simpa using hk), bif_t (inb_nat hk), toN_nat, getAtL _ hk, wrapI (by omega) (by omega)]
    cases h1 : (l[i].1 == g) <;> cases h2 : (l[i].2.1 == k) <;> rfl) (by
    unfold L_plaitref05_Has_3
    simp only
    rw [bif_f (by simp)])
  unfold F_plaitref05_Has
  simp only
  rw [show loop L_plaitref05_Has_3 (g, k, l, (l.length : Int), (0 : Int)) = _ from this]
  cases hf : l.findIdx? (fun w => w.1 == g && w.2.1 == k) with
  | none =>
    rw [List.findIdx?_eq_none_iff] at hf
    refine decF ?_
    rw [List.mem_map]
    rintro ⟨w, hw, e⟩
    have h := hf w hw
    unfold keyW at e
    cases e
    simp at h
  | some i =>
    obtain ⟨hi, hp, _⟩ := List.findIdx?_eq_some_iff_getElem.1 hf
    refine decT ?_
    rw [List.mem_map]
    refine ⟨l[i], List.getElem_mem hi, ?_⟩
    simp only [Bool.and_eq_true, beq_iff_eq] at hp
    unfold keyW
    rw [hp.1, hp.2]
theorem refFirst_eq (l : List W) (g : Int) (hl : l.length < 4611686018427387904) : F_plaitref05_First (l, g) = some (match l.findIdx? (notG g) with | some i => (i : Int) | none => Int.negSucc 0) := by
  have := loop_find (f := L_plaitref05_First_3) l (notG g) (fun i => (g, l, (l.length : Int), (i : Int))) (fun i => .inl (i : Int)) (.inr ()) (by
    intro i hk
    unfold L_plaitref05_First_3
    simp only
    rw [bif_t (by simpa using hk), bif_t (inb_nat hk), toN_nat, getAtL _ hk, wrapI (by omega) (by omega)]
    show (bif notG g l[i] then _ else _) = _
    cases h : notG g l[i] <;> rfl) (by
    unfold L_plaitref05_First_3
    simp only
    rw [bif_f (by simp)])
  unfold F_plaitref05_First
  simp only
  rw [show loop L_plaitref05_First_3 (g, l, (l.length : Int), (0 : Int)) = _ from this]
  cases l.findIdx? (notG g) <;> rfl
theorem refDrop_eq (l : List W) (g : Int) (hl : l.length ≤ 4294967296) : F_plaitref05_Drop (l, g) = some (l.filter (notG g)) := by
  have := loop_count (f := L_plaitref05_Drop_4) l.length (fun i => (g, l, (l.length : Int), (i : Int), (l.take i).filter (notG g))) (l.filter (notG g)) (by
    intro i hk
    unfold L_plaitref05_Drop_4
    simp only
    rw [bif_t (by simpa using hk), bif_t (inb_nat hk), toN_nat, getAtL _ hk, wrapI (by omega) (by omega), List.take_succ_eq_append_getElem hk, List.filter_append]
    have hle := List.length_filter_le (notG g) (l.take i)
    rw [bif_t (x := some (Sum.inl (g, l, (l.length : Int), (i : Int) + 1, (l.take i).filter (notG g) ++ [l[i]]))) (fits_iff.2 (by simp at hle ⊢; omega))]
    show (bif notG g l[i] then _ else _) = _
    cases h : notG g l[i] with
    | true => rw [cond_true]; simp [h]
    | false => rw [cond_false]; simp [h]) (by
    unfold L_plaitref05_Drop_4
    simp only
    rw [bif_f (by simp), List.take_length]) 0 (Nat.zero_le _)
  unfold F_plaitref05_Drop
  simp only
  rw [show loop L_plaitref05_Drop_4 (g, l, (l.length : Int), (0 : Int), ([] : List (Int × (Int × Int)))) = _ from this]
  rfl
theorem refRight_eq (l : List W) (hl : l.length < 4611686018427387904) : F_plaitref05_Right l = some (decide (wOK l)) := by
  obtain ⟨y, h1, h2⟩ := loop_rule (f := L_plaitref05_Right_3) (fun x => ∃ k : Nat, x = (l, l, (l.length : Int), (k : Int)) ∧ k ≤ l.length ∧ (∀ w ∈ l.take k, isW w) ∧ ((l.take k).map keyW).Nodup)
    (fun y => (y = .inl false ∧ ¬ ((∀ w ∈ l, isW w) ∧ (l.map keyW).Nodup)) ∨ (y = .inr l ∧ (∀ w ∈ l, isW w) ∧ (l.map keyW).Nodup)) (fun x => l.length - x.2.2.2.toNat) (by
    rintro x ⟨k, rfl, hk, ha, hb⟩
    unfold L_plaitref05_Right_3
    simp only
    by_cases hlt : k < l.length
    · rw [bif_t (by simpa using hlt), bif_t (inb_nat hlt), toN_nat, getAtL _ hlt, may_eq]
      simp only [Option.bind_some]
      by_cases h3 : isW l[k]
      · rw [bif_f (by simp [h3]), bif_t (sub3L.2 (by omega))]
        rw [show cut l (toN 0) (k - toN 0) = l.take k by simp [cut, toN], has_eq _ _ _ (by simp; omega)]
        simp only [Option.bind_some]
        by_cases h4 : keyW l[k] ∈ (l.take k).map keyW
        · right
          have h4' : (l[k].1, l[k].2.1) ∈ (l.take k).map keyW := h4
          rw [bif_t (by simpa using h4')]
          refine ⟨_, rfl, .inl ⟨rfl, fun h => ?_⟩⟩
          have h5 : (l.take (k + 1)).map keyW = (l.take k).map keyW ++ [keyW l[k]] := by rw [List.take_succ_eq_append_getElem hlt, List.map_append]; rfl
          have h6 : ((l.take (k + 1)).map keyW).Nodup := by
            rw [List.map_take]; exact h.2.sublist (List.take_sublist _ _)
          rw [h5, List.nodup_append] at h6
          exact h6.2.2 _ h4 _ (by simp) rfl
        · left
          have h4' : ¬ (l[k].1, l[k].2.1) ∈ (l.take k).map keyW := h4
          rw [bif_f (by simpa using h4')]
          refine ⟨_, rfl, ⟨k + 1, ?_, hlt, ?_, ?_⟩, ?_⟩
          · rw [wrapI (by omega) (by omega)]; rfl
          · intro w hw
            rw [List.take_succ_eq_append_getElem hlt, List.mem_append] at hw
            rcases hw with hw | hw
            · exact ha w hw
            · simp at hw; rw [hw]; exact h3
          · rw [List.take_succ_eq_append_getElem hlt, List.map_append, List.nodup_append]
            refine ⟨hb, by simp, fun a h5 b h6 e => ?_⟩
            simp at h6
            subst h6 e
            exact h4 h5
          · rw [wrapI (by omega) (by omega)]; show l.length - ((k : Int) + 1).toNat < l.length - (k : Int).toNat; omega
      · right
        rw [bif_t (by simp [h3])]
        exact ⟨_, rfl, .inl ⟨rfl, fun h => h3 (h.1 _ (List.getElem_mem hlt))⟩⟩
    · right
      rw [bif_f (by simpa using hlt)]
      rw [List.take_of_length_le (by omega)] at ha hb
      exact ⟨_, rfl, .inr ⟨rfl, ha, hb⟩⟩) (l, l, (l.length : Int), 0) ⟨0, rfl, Nat.zero_le _, by simp, by simp⟩
  unfold F_plaitref05_Right
  rw [h1]
  rcases h2 with ⟨rfl, h⟩ | ⟨rfl, ha, hb⟩
  · exact decF fun h2 => h ⟨h2.1, h2.2.2⟩
  · refine decE ?_
    unfold wOK
    constructor
    · intro h; exact ⟨ha, by omega, hb⟩
    · intro h; have := h.2.1; omega
end Go.Proofs.Ytgnellpcphepjaa.VX.VxD_C
