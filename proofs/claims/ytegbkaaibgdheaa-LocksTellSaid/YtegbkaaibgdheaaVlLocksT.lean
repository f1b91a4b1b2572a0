/- LocksTell: the plain form answers true. -/
import Derived.Test.YtegbkaaibgdheaaVlLocks2
import Derived.Test.YtegbkaaibgdheaaVxP
set_option linter.unusedVariables false
set_option linter.unusedSimpArgs false
namespace Go.Proofs.Ytegbkaaibgdheaa.VX.VxB_All
open Go.Proofs
theorem waiting_eq (l : Lk) (hl : l.2.length < 4611686018427387904) : F_locks_Waiting l = some (if lOK l then ((l.2.length : Int), 0) else (0, 1)) := by
  unfold F_locks_Waiting
  rw [lRight_eq _ hl]
  simp only [Option.bind_some]
  by_cases h : lOK l
  · rw [bif_f (by simpa using h), if_pos h]
  · rw [bif_t (by simpa using h), if_neg h]
theorem refTake_eq (l : Lk) (w : W) (hl : l.2.length ≤ 70) : F_plaitref10_Take (l, w) = some (if l.1 = false then ((true, []), true, 0) else if keyW w ∈ l.2.map keyW then ((false, []), false, 7) else if l.2.length = 64 then ((false, []), false, 5) else ((true, l.2 ++ [w]), false, 0)) := by
  unfold F_plaitref10_Take
  simp only
  cases hb : l.1 with
  | false => rfl
  | true =>
    have hh : F_plaitref05_Has (l.2, w.1, w.2.1) = some (decide (keyW w ∈ l.2.map keyW)) := has_eq l.2 w.1 w.2.1 (by omega)
    rw [bif_f (by rfl), if_neg (by simp), hh]
    simp only [Option.bind_some]
    by_cases h3 : keyW w ∈ l.2.map keyW
    · rw [bif_t (by simpa using h3), if_pos h3]
    · rw [bif_f (by simpa using h3), if_neg h3]
      by_cases h4 : l.2.length = 64
      · rw [bif_t (by simp [h4]), if_pos h4]
      · rw [bif_f (beq_eq_false_iff_ne.2 (by omega)), if_neg h4, bif_t (fits_iff.2 (by simp; omega)), bif_t (fits_iff.2 (by simp; omega))]
        rfl
theorem lalive_eq : F_plaitlaw10_alive () = some true := by
  unfold F_plaitlaw10_alive
  rw [take_eq _ _ (by decide), if_pos (by decide), if_pos rfl]
  simp only [Option.bind_some]
  rw [take_eq _ _ (by decide), if_pos (by decide), if_neg (by decide), if_pos (by decide)]
  simp only [Option.bind_some]
  rw [give_eq _ (by decide), if_pos (by decide), if_neg (by decide)]
  rfl
theorem lfew_eq (l : Lk) : F_plaitlaw10_few l = some (l.1, l.2.take 70) := by
  have := wfew_eq l.2
  unfold F_plaitlaw05_few at this
  rw [bif_t (sub3L.2 (by omega))] at this
  unfold F_plaitlaw10_few
  rw [bif_t (sub3L.2 (by omega))]
  have := Option.some.inj this
  rw [this]
theorem locksTell (l0 : Lk) (w : W) : F_plaitlaw10_LocksTell (l0, w) = some true := by
  unfold F_plaitlaw10_LocksTell
  simp only
  have hfew := lfew_eq l0
  have hl : ((l0.1, l0.2.take 70) : Lk).2.length ≤ 70 := by simp; omega
  generalize ((l0.1, l0.2.take 70) : Lk) = l at hfew hl
  rw [hfew]
  simp only [Option.bind_some]
  rw [take_eq l w (by omega), give_eq l (by omega), waiting_eq l (by omega), refLRight_eq l (by omega), lRight_eq l (by omega)]
  simp only [Option.bind_some]
  rw [bif_f (by simp [Ty.beq]), lalive_eq]
  simp only [Option.bind_some]
  rw [bif_f (by rfl)]
  have hz : Ty.beq (.pair (.int .i64) (.pair (.int .i64) (.int .i64))) zeroW ((0 : Int), (0 : Int), (0 : Int)) = true := bqW zeroW
  have hs0 : F_plaitref10_Same ((false, []), (false, [])) = some true := lSame_refl (false, []) (by decide)
  by_cases h : lOK l
  · have hm := may_eq w
    have hrg := refGive_eq l
    have hrt := refTake_eq l w hl
    have hgl : (given l.2).1.2.length ≤ 70 := by
      cases hq : l.2 with
      | nil => simp [given]
      | cons a t => rw [hq] at hl; simp [given] at hl ⊢; omega
    have hgs := lSame_refl (given l.2).1 (by omega)
    have hgb := bqW (given l.2).2.1
    have hs1 : F_plaitref10_Same ((true, []), (true, [])) = some true := lSame_refl (true, []) (by decide)
    have hs2 : F_plaitref10_Same ((true, l.2 ++ [w]), (true, l.2 ++ [w])) = some true := lSame_refl (true, l.2 ++ [w]) (by simp; omega)
    have hbb : ∀ b : Bool, Ty.beq .bool b b = true := fun b => by cases b <;> rfl
    have hw := h.1
    cases hb : l.1 with
    | false =>
      rw [hb] at hrt
      by_cases h2 : isW w
      · simp [h, hb, h2, hz, hs0, hs1, hm, hrt, hbb]
      · simp [h, hb, h2, hz, hs0, hs1, hm, hrt, hbb]
    | true =>
      rw [hb] at hrt
      by_cases h2 : isW w
      · by_cases h3 : keyW w ∈ l.2.map keyW
        · simp only [if_pos h3] at hrt
          simp [h, hb, h2, hz, hs0, hs1, hm, hrt, hbb, hrg, hgs, hgb, pushW, hw, if_pos h3]
        · by_cases h4 : l.2.length = 64
          · simp only [if_neg h3, if_pos h4] at hrt
            simp [h, hb, h2, hz, hs0, hs1, hm, hrt, hbb, hrg, hgs, hgb, pushW, hw, if_neg h3, h4]
          · simp only [if_neg h3, if_neg h4] at hrt
            simp [h, hb, h2, hz, hs0, hs1, hs2, hm, hrt, hbb, hrg, hgs, hgb, pushW, hw, if_neg h3, h4]
      · simp [h, hb, h2, hz, hs0, hs1, hm, hrt, hbb, hrg, hgs, hgb]
  · simp [h, hz, hs0]
theorem locksTell_law (x : HL [(.pair .bool (.slice (.pair (.int .i64) (.pair (.int .i64) (.int .i64))))), (.pair (.int .i64) (.pair (.int .i64) (.int .i64)))]) (h : wfHL [(.pair .bool (.slice (.pair (.int .i64) (.pair (.int .i64) (.int .i64))))), (.pair (.int .i64) (.pair (.int .i64) (.int .i64)))] x) : F_plaitlaw10_LocksTell x = some true :=
  locksTell x.1 x.2
end Go.Proofs.Ytegbkaaibgdheaa.VX.VxB_All
