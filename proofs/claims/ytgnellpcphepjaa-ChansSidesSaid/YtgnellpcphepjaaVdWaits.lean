/- Plain laws of waits. -/
import Derived.Test.YtgnellpcphepjaaVxDC
import Derived.Test.YtgnellpcphepjaaVl1
set_option linter.unusedVariables false
set_option linter.unusedSimpArgs false
namespace Go.Proofs.Ytgnellpcphepjaa.VX.VxD_C
open Go.Proofs
abbrev W := Int × (Int × Int)
abbrev K := Int × Int
def keyW (w : W) : K := (w.1, w.2.1)
def isW (w : W) : Prop := 0 ≤ w.1 ∧ 0 ≤ w.2.1 ∧ 0 ≤ w.2.2
instance (w : W) : Decidable (isW w) := by unfold isW; infer_instance
def eqK : K → K → Bool := Ty.beq (.pair (.int .i64) (.int .i64))
theorem eqK_iff (a b : K) : eqK a b = true ↔ a = b := by
  show (a.1 == b.1 && a.2 == b.2) = true ↔ a = b
  rw [Bool.and_eq_true, beq_iff_eq, beq_iff_eq, Prod.ext_iff]
theorem isWait_eq (w : W) : F_waits_isWait w = some (decide (isW w)) := by
  simp only [F_waits_isWait, isW, cond_eq_ite, decide_eq_true_eq]
  repeat' split
  all_goals first | exact decF (by omega) | exact decT (by omega) | exact decE (by omega)
theorem ixRight_eq (l : List W) (hl : l.length < 4611686018427387904) : F_slices_ContainsFunc_api_Wait__waits_Right_1 l = some (l.any fun w => !decide (isW w)) := by
  unfold F_slices_ContainsFunc_api_Wait__waits_Right_1 F_slices_IndexFunc_api_Wait__waits_Right_1
  have := loop_find (f := L_slices_IndexFunc_api_Wait__waits_Right_1_3) l (fun w => !decide (isW w)) (fun k => (l, (l.length : Int), (k : Int))) (fun k => .inl (k : Int)) (.inr ()) (by
    intro k hk
    unfold L_slices_IndexFunc_api_Wait__waits_Right_1_3 F_waits_Right_1
    simp only
    rw [bif_t (by simpa using hk), bif_t (inb_nat hk), toN_nat, getAtL _ hk, isWait_eq]
    simp only [Option.bind_some]
    rw [wrapI (by omega) (by omega)]
    cases h : decide (isW l[k]) <;> rfl) (by
    unfold L_slices_IndexFunc_api_Wait__waits_Right_1_3
    simp only
    rw [bif_f (by simp)])
  rw [show loop L_slices_IndexFunc_api_Wait__waits_Right_1_3 (l, (l.length : Int), (0 : Int)) = _ from this, ← List.findIdx?_isSome]
  cases l.findIdx? fun w => !decide (isW w) with
  | none => rfl
  | some i => simp
def stepM (m : List (K × Int)) (w : W) : List (K × Int) := mput eqK (keyW w) (mlook eqK 0 (keyW w) m + 1) m
def mets (l : List W) : List (K × Int) := l.foldl stepM []
theorem mets_aux : ∀ (l : List W) (m : List (K × Int)) (ks : List K), (∀ k, mlook eqK (0 : Int) k m = (ks.count k : Nat)) → (∀ k, mhas eqK k m = decide (k ∈ ks)) →
    (∀ k, mlook eqK (0 : Int) k (l.foldl stepM m) = ((ks ++ l.map keyW).count k : Nat)) ∧ (l.foldl stepM m).length ≤ m.length + l.length ∧ ((l.foldl stepM m).length = m.length + l.length ↔ (l.map keyW).Nodup ∧ ∀ k ∈ l.map keyW, k ∉ ks)
  | [], m, ks, h1, h2 => ⟨fun k => by simp [h1], by simp, by simp⟩
  | w :: l, m, ks, h1, h2 => by
    have ih := mets_aux l (stepM m w) (ks ++ [keyW w]) (fun k => by
      unfold stepM
      rw [mput_look eqK_iff]
      by_cases e : k = keyW w
      · rw [if_pos e, ← e, h1, List.count_append]; simp
      · rw [if_neg e, h1, List.count_append, List.count_singleton]
        rw [show (keyW w == k) = false by simpa using fun h => e h.symm]; simp) (fun k => by
      unfold stepM
      rw [mput_has eqK_iff, h2]
      by_cases e : k = keyW w
      · rw [(eqK_iff _ _).2 e]; simp [e]
      · rw [show eqK k (keyW w) = false by
          cases hb : eqK k (keyW w) with
          | false => rfl
          | true => exact absurd ((eqK_iff _ _).1 hb) e]
        simp [e])
    obtain ⟨i1, i2, i3⟩ := ih
    have hlen : (stepM m w).length = if keyW w ∈ ks then m.length else m.length + 1 := by
      unfold stepM
      rw [mputLen, h2]; simp
    refine ⟨fun k => by rw [List.foldl_cons, i1]; simp, ?_, ?_⟩
    · rw [List.foldl_cons, List.length_cons]
      split at hlen <;> omega
    · rw [List.foldl_cons, List.length_cons, List.map_cons, List.nodup_cons]
      by_cases e : keyW w ∈ ks
      · rw [if_pos e] at hlen
        constructor
        · intro h; omega
        · intro h; exact absurd e (h.2 _ (List.mem_cons_self ..))
      · rw [if_neg e] at hlen
        rw [show m.length + (l.length + 1) = (stepM m w).length + l.length by omega, i3]
        constructor
        · rintro ⟨q1, q2⟩
          refine ⟨⟨fun h => (q2 _ h) (by simp), q1⟩, fun k hk => ?_⟩
          rcases List.mem_cons.1 hk with rfl | hk
          · exact e
          · exact fun h => q2 k hk (by simp [h])
        · rintro ⟨⟨q1, q2⟩, q3⟩
          refine ⟨q2, fun k hk h => ?_⟩
          rcases List.mem_append.1 h with h | h
          · exact q3 k (List.mem_cons_of_mem _ hk) h
          · simp at h; subst h; exact q1 hk
theorem mets_count (l : List W) (k : K) : mlook eqK (0 : Int) k (mets l) = ((l.map keyW).count k : Nat) := by
  have := (mets_aux l [] [] (fun k => rfl) (fun k => rfl)).1 k
  simpa [mets] using this
theorem mets_len (l : List W) : (mets l).length = l.length ↔ (l.map keyW).Nodup := by
  have := (mets_aux l [] [] (fun k => rfl) (fun k => rfl)).2.2
  simpa [mets] using this
theorem met_eq (l : List W) (hl : l.length < 4611686018427387904) : F_waits_met l = some (mets l) := by
  unfold F_waits_met
  have := loop_count (f := L_waits_met_4) l.length (fun k => (l, (l.length : Int), (k : Int), mets (l.take k))) (mets l) (by
    intro k hk
    unfold L_waits_met_4
    simp only
    rw [bif_t (by simpa using hk), bif_t (inb_nat hk), toN_nat, getAtL _ hk]
    have hc := mets_count (l.take k) (keyW l[k])
    have hle : ((l.take k).map keyW).count (keyW l[k]) ≤ k := Nat.le_trans (List.count_le_length) (by simp; omega)
    show (bif inb ((mpos eqK (keyW l[k]) (mets (l.take k)) : Nat) : Int) (mput eqK (keyW l[k]) (mlook eqK (0 : Int) (keyW l[k]) (mets (l.take k))) (mets (l.take k))).length then
      some (Sum.inl (l, (l.length : Int), IntKind.wrap .i64 ((k : Int) + 1), mset (mput eqK (keyW l[k]) (mlook eqK (0 : Int) (keyW l[k]) (mets (l.take k))) (mets (l.take k))) (mpos eqK (keyW l[k]) (mets (l.take k))) (IntKind.wrap .i64 (mlook eqK (0 : Int) (keyW l[k]) (mets (l.take k)) + 1)))) else none) = _
    rw [bif_t (inb_nat (mpos_lt _ _)), wrapI (n := (k : Int) + 1) (by omega) (by omega)]
    have hw : IntKind.wrap .i64 (mlook eqK (0 : Int) (keyW l[k]) (mets (l.take k)) + 1) = mlook eqK (0 : Int) (keyW l[k]) (mets (l.take k)) + 1 := wrapI (by omega) (by omega)
    have hst : mets (l.take (k + 1)) = stepM (mets (l.take k)) l[k] := by
      unfold mets
      rw [List.take_succ_eq_append_getElem hk, List.foldl_append]; rfl
    rw [hst]
    rw [hw, mset_mput]
    rfl) (by
    unfold L_waits_met_4
    simp only
    rw [bif_f (by simp), List.take_length]) 0 (Nat.zero_le _)
  rw [show loop L_waits_met_4 (l, (l.length : Int), (0 : Int), ([] : List ((Int × Int) × Int))) = _ from this]
  rfl
def wOK (l : List W) : Prop := (∀ w ∈ l, isW w) ∧ l.length ≤ 64 ∧ (l.map keyW).Nodup
instance (l : List W) : Decidable (wOK l) := by unfold wOK; infer_instance
theorem wRight_eq (l : List W) (hl : l.length < 4611686018427387904) : F_waits_Right l = some (decide (wOK l)) := by
  unfold F_waits_Right
  rw [ixRight_eq l hl]
  simp only [Option.bind_some]
  by_cases h1 : ∀ w ∈ l, isW w
  · rw [bif_f (by simpa using h1)]
    by_cases h2 : l.length ≤ 64
    · rw [bif_t (by simp; omega), met_eq l hl]
      simp only [Option.bind_some]
      by_cases h3 : (l.map keyW).Nodup
      · rw [(mets_len l).2 h3]
        exact (by simp : some (((l.length : Nat) : Int) == (l.length : Int)) = some true).trans (decT ⟨h1, h2, h3⟩)
      · have : (((mets l).length : Int) == (l.length : Int)) = false := by
          have := mt (mets_len l).1 h3
          simp; omega
        rw [this]
        exact decF fun h => h3 h.2.2
    · rw [bif_f (by simp; omega)]
      exact decF fun h => h2 h.2.1
  · rw [bif_t (by simpa using h1)]
    exact decF fun h => h1 h.1
end Go.Proofs.Ytgnellpcphepjaa.VX.VxD_C
