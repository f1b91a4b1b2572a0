/- Plain laws of locks. -/
import Derived.Test.YtegbkaaibgdheaaVoWaitsT
set_option linter.unusedVariables false
set_option linter.unusedSimpArgs false
namespace Go.Proofs.Ytegbkaaibgdheaa.VX.VxB_O
open Go.Proofs
abbrev Lk := Bool × List W
def lOK (l : Lk) : Prop := wOK l.2 ∧ (l.1 = true ∨ l.2.length = 0)
instance (l : Lk) : Decidable (lOK l) := by unfold lOK; infer_instance
theorem lRight_eq (l : Lk) (hl : l.2.length < 4611686018427387904) : F_locks_Right l = some (decide (lOK l)) := by
  unfold F_locks_Right
  rw [wRight_eq _ hl]
  simp only [Option.bind_some]
  by_cases h : wOK l.2
  · rw [bif_t (by simpa using h)]
    cases hb : l.1 with
    | true => exact decT ⟨h, .inl hb⟩
    | false =>
      simp only [cond_false]
      by_cases h0 : l.2.length = 0
      · rw [h0]; exact decT ⟨h, .inr h0⟩
      · rw [show ((l.2.length : Int) == 0) = false from beq_eq_false_iff_ne.2 (by omega)]
        exact decF fun h2 => h2.2.elim (fun e => by rw [hb] at e; cases e) h0
  · rw [bif_f (by simpa using h)]
    exact decF fun h2 => h h2.1
theorem refLRight_eq (l : Lk) (hl : l.2.length < 4611686018427387904) : F_plaitref10_Right l = some (decide (lOK l)) := by
  unfold F_plaitref10_Right
  rw [refRight_eq _ hl]
  simp only [Option.bind_some]
  by_cases h : wOK l.2
  · rw [bif_t (by simpa using h)]
    cases hb : l.1 with
    | true => exact decT ⟨h, .inl hb⟩
    | false =>
      simp only [cond_false]
      by_cases h0 : l.2.length = 0
      · rw [h0]; exact decT ⟨h, .inr h0⟩
      · rw [show ((l.2.length : Int) == 0) = false from beq_eq_false_iff_ne.2 (by omega)]
        exact decF fun h2 => h2.2.elim (fun e => by rw [hb] at e; cases e) h0
  · rw [bif_f (by simpa using h)]
    exact decF fun h2 => h h2.1
theorem lSame_refl (l : Lk) (hl : l.2.length < 4611686018427387904) : F_plaitref10_Same (l, l) = some true := by
  unfold F_plaitref10_Same
  rw [bif_t (by simp [Ty.beq]), same_eq hl]
  simp
def pushW (l : List W) (w : W) : List W × Int := if wOK l then (if isW w then (if keyW w ∈ l.map keyW then ([], 7) else if l.length = 64 then ([], 5) else (l ++ [w], 0)) else ([], 1)) else ([], 1)
theorem take_eq (l : Lk) (w : W) (hl : l.2.length < 4611686018427387904) : F_locks_Take (l, w) = some (if lOK l ∧ isW w then (if l.1 = false then ((true, []), true, 0) else if (pushW l.2 w).2 = 0 then ((true, (pushW l.2 w).1), false, 0) else ((false, []), false, (pushW l.2 w).2)) else ((false, []), false, 1)) := by
  unfold F_locks_Take F_locks_held_lock
  simp only
  rw [wpush_eq _ _ hl, lRight_eq _ hl]
  simp only [Option.bind_some]
  by_cases h : lOK l
  · have hw := h.1
    rw [bif_f (by simpa using h)]
    by_cases h2 : isW w
    · rw [if_pos (show lOK l ∧ isW w from ⟨h, h2⟩)]
      unfold pushW
      rw [if_pos hw, if_pos h2]
      by_cases h3 : keyW w ∈ l.2.map keyW
      · rw [if_pos h3]
        cases hb : l.1 <;> rfl
      · rw [if_neg h3]
        by_cases h4 : l.2.length = 64
        · rw [if_pos h4]
          cases hb : l.1 <;> rfl
        · rw [if_neg h4]
          cases hb : l.1 <;> rfl
    · rw [if_neg (show ¬ (lOK l ∧ isW w) from fun e => h2 e.2), if_pos hw, if_neg h2]
      rfl
  · rw [bif_t (by simpa using h), if_neg (show ¬ (lOK l ∧ isW w) from fun e => h e.1)]
end Go.Proofs.Ytegbkaaibgdheaa.VX.VxB_O
