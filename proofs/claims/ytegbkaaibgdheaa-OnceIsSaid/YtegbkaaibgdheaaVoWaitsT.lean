/- WaitsTell: the plain form answers true. -/
import Derived.Test.YtegbkaaibgdheaaVoWaits4
import Derived.Test.YtegbkaaibgdheaaVxP
set_option linter.unusedVariables false
set_option linter.unusedSimpArgs false
namespace Go.Proofs.Ytegbkaaibgdheaa.VX.VxB_O
open Go.Proofs
theorem wfew_eq (l : List W) : F_plaitlaw05_few l = some (l.take 70) := by
  unfold F_plaitlaw05_few
  rw [bif_t (sub3L.2 (by omega))]
  unfold cut toN
  simp only [List.drop_zero, Int.toNat_zero, Nat.sub_zero]
  congr 1
  rcases Nat.le_total l.length 70 with h | h
  · rw [List.take_of_length_le (by omega), List.take_of_length_le h]
  · congr 1; omega
theorem walive_eq : F_plaitlaw05_alive () = some true := by
  unfold F_plaitlaw05_alive
  rw [wfirst_eq _ _ (by decide), if_pos (by decide), if_neg (by decide)]
  rfl
theorem bqW (a : W) : Ty.beq (.pair (.int .i64) (.pair (.int .i64) (.int .i64))) a a = true := (eqW_iff a a).2 rfl
end Go.Proofs.Ytegbkaaibgdheaa.VX.VxB_O
