/- Plain laws of locks, more: giving back, and the references. -/
import Derived.Test.YtegbkaaibgdheaaVoLocks
set_option linter.unusedVariables false
set_option linter.unusedSimpArgs false
namespace Go.Proofs.Ytegbkaaibgdheaa.VX.VxB_O
open Go.Proofs
def given : List W → Lk × W × Bool
  | [] => ((false, []), zeroW, false)
  | w :: t => ((true, t), w, true)
theorem give_eq (l : Lk) (hl : l.2.length < 4611686018427387904) : F_locks_Give l = some (if lOK l then (if l.1 = false then ((false, []), zeroW, false, 6) else ((given l.2).1, (given l.2).2.1, (given l.2).2.2, 0)) else ((false, []), zeroW, false, 1)) := by
  unfold F_locks_Give F_locks_held_lock
  rw [lRight_eq _ hl]
  simp only [Option.bind_some]
  by_cases h : lOK l
  · rw [bif_f (by simpa using h), if_pos h]
    cases hb : l.1 with
    | false => rfl
    | true =>
      rw [bif_f (by rfl), if_neg (by simp)]
      cases hq : l.2 with
      | nil => rfl
      | cons w t =>
        rw [bif_f (by simp; omega), bif_t (sub3L.2 (by simp; omega)), bif_t (inbL.2 (by simp))]
        have : cut (w :: t) (toN 1) (toN ((w :: t).length : Int) - toN 1) = t := by simp [cut, toN]
        rw [this]; rfl
  · rw [bif_t (by simpa using h), if_neg h]; rfl
theorem refGive_eq (l : Lk) : F_plaitref10_Give l = some (given l.2) := by
  unfold F_plaitref10_Give
  cases hq : l.2 with
  | nil => rfl
  | cons w t =>
    rw [bif_f (by simp; omega), bif_t (sub3L.2 (by simp; omega)), bif_t (inbL.2 (by simp))]
    have : cut (w :: t) (toN 1) (toN ((w :: t).length : Int) - toN 1) = t := by simp [cut, toN]
    rw [this]; rfl
end Go.Proofs.Ytegbkaaibgdheaa.VX.VxB_O
