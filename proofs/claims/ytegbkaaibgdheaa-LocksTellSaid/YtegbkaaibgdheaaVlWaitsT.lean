/- WaitsTell: the plain form answers true. -/
import Derived.Test.YtegbkaaibgdheaaVlWaits4
import Derived.Test.YtegbkaaibgdheaaVxP
set_option linter.unusedVariables false
set_option linter.unusedSimpArgs false
namespace Go.Proofs.Ytegbkaaibgdheaa.VX.VxB_All
open Go.Proofs
theorem wfew_eq (l : List W) : F_plaitlaw05_few l = some (l.take 70) := by
  unfold F_plaitlaw05_few
  rw [bif_t (sub3L.2 (by omega))]
  unfold cut toN
  simp only [List.drop_zero, Int.toNat_zero, Nat.sub_zero]
  congr 1
  rcases Nat.le_total l.length 70 with h | h
  · rw [List.take_of_length_le (by omega), List.take_of_length_le h]
  · congr 1; omega
theorem walive_eq : F_plaitlaw05_alive () = some true := by
  unfold F_plaitlaw05_alive
  rw [wfirst_eq _ _ (by decide), if_pos (by decide), if_neg (by decide)]
  rfl
theorem bqW (a : W) : Ty.beq (.pair (.int .i64) (.pair (.int .i64) (.int .i64))) a a = true := (eqW_iff a a).2 rfl
theorem waitsTell (l0 : List W) (w : W) (g : Int) : F_plaitlaw05_WaitsTell (l0, w, g) = some true := by
  unfold F_plaitlaw05_WaitsTell
  simp only
  have hfew := wfew_eq l0
  have hl : (l0.take 70).length ≤ 70 := by simp; omega
  generalize l0.take 70 = l at hfew hl
  rw [hfew]
  simp only [Option.bind_some]
  rw [wpush_eq l w (by omega), wfirst_eq l g (by omega), wdrop_eq l g (by omega), wwho_eq l (by omega), refRight_eq l (by omega), wRight_eq l (by omega)]
  simp only [Option.bind_some]
  rw [bif_f (by simp [Ty.beq]), walive_eq]
  simp only [Option.bind_some]
  rw [bif_f (by rfl)]
  have hz : Ty.beq (.pair (.int .i64) (.pair (.int .i64) (.int .i64))) zeroW ((0 : Int), (0 : Int), (0 : Int)) = true := bqW zeroW
  by_cases h : wOK l
  · rw [decide_eq_true h, if_pos h, if_pos h, if_pos h, if_pos h]
    have hlen := h.2.1
    have hwho := refWho_eq l hl
    have hwl := whos_len l
    have hrows : F_plaitref01_Rows (whos l, whos l) = some true := by rw [rows_eq (by omega)]; simp
    have hmay := may_eq w
    have hhas := has_eq l w.1 w.2.1 (by omega)
    have hhas : F_plaitref05_Has (l, w.1, w.2.1) = some (decide (keyW w ∈ l.map keyW)) := hhas
    have hsame : F_plaitref05_Same (l ++ [w], l ++ [w]) = some true := by rw [same_eq (by simp; omega)]; simp
    have hdrop := refDrop_eq l g (by omega)
    have hfl := List.length_filter_le (notG g) l
    have hsd : F_plaitref05_Same (l.filter (notG g), l.filter (notG g)) = some true := by rw [same_eq (by omega)]; simp
    have hfst := refFirst_eq l g (by omega)
    have hc1 : fits l.length = true := fits_iff.2 (by omega)
    have hc2 : fits (l.length + 1) = true := fits_iff.2 (by omega)
    have h64 : ((l.length : Int) == 64) = decide (l.length = 64) := by
      by_cases e : l.length = 64
      · simp [e]
      · simp [e]; omega
    rw [hmay]
    simp only [Option.bind_some, hhas, hwho, hrows, hdrop, hsd, hfst, h64]
    by_cases hg : g < 0
    · rw [if_pos hg, if_pos hg]
      by_cases h2 : isW w
      · rw [if_pos h2]
        by_cases h3 : keyW w ∈ l.map keyW
        · rw [if_pos h3]; simp [hsd, hg, h2, h3, hz]
        · rw [if_neg h3]
          by_cases h4 : l.length = 64
          · rw [if_pos h4]; simp [hsd, hg, h2, h3, h4, hz]
          · rw [if_neg h4]; simp [hsd, hg, h2, h3, h4, hz, hc1, hc2, hsame]
      · rw [if_neg h2]; simp [hsd, hg, h2, hz]
    · rw [if_neg hg, if_neg hg]
      cases hf : l.findIdx? (notG g) with
      | none =>
        by_cases h2 : isW w
        · rw [if_pos h2]
          by_cases h3 : keyW w ∈ l.map keyW
          · rw [if_pos h3]; simp [hsd, hg, h2, h3, hz]
          · rw [if_neg h3]
            by_cases h4 : l.length = 64
            · rw [if_pos h4]; simp [hsd, hg, h2, h3, h4, hz]
            · rw [if_neg h4]; simp [hsd, hg, h2, h3, h4, hz, hc1, hc2, hsame]
        · rw [if_neg h2]; simp [hsd, hg, h2, hz]
      | some i =>
        obtain ⟨hi, _⟩ := List.findIdx?_eq_some_iff_getElem.1 hf
        have hn : decide ((i : Int) < 0) = false := by simp
        have hb : inb (i : Int) l.length = true := inb_nat hi
        have he : Ty.beq (.pair (.int .i64) (.pair (.int .i64) (.int .i64))) (l.getD i zeroW) (getAt ((0 : Int), (0 : Int), (0 : Int)) l (toN (i : Int))) = true :=
          (eqW_iff (l.getD i zeroW) (getAt ((0 : Int), (0 : Int), (0 : Int)) l (toN (i : Int)))).2 (getAt_eq _ _ _).symm
        simp only [hn, hb]
        by_cases h2 : isW w
        · rw [if_pos h2]
          by_cases h3 : keyW w ∈ l.map keyW
          · rw [if_pos h3]; simp only [hsd, hg, h2, h3, he, decide_true, decide_false, Bool.not_true, Bool.not_false, cond_true, cond_false, Option.bind_some]; simp
          · rw [if_neg h3]
            by_cases h4 : l.length = 64
            · rw [if_pos h4]; simp only [hsd, hg, h2, h3, h4, he, decide_true, decide_false, Bool.not_true, Bool.not_false, cond_true, cond_false, Option.bind_some]; simp
            · rw [if_neg h4]; simp only [hsd, hg, h2, h3, h4, he, decide_true, decide_false, Bool.not_true, Bool.not_false, cond_true, cond_false, Option.bind_some]; simp [hc1, hc2, hsame]
        · rw [if_neg h2]; simp only [hsd, hg, h2, he, decide_true, decide_false, Bool.not_true, Bool.not_false, cond_true, cond_false, Option.bind_some]; simp
  · rw [if_neg h, if_neg h, if_neg h, if_neg h]
    simp [h, hz]
theorem waitsTell_law (x : HL [(.slice (.pair (.int .i64) (.pair (.int .i64) (.int .i64)))), (.pair (.int .i64) (.pair (.int .i64) (.int .i64))), (.int .i64)]) (h : wfHL [(.slice (.pair (.int .i64) (.pair (.int .i64) (.int .i64)))), (.pair (.int .i64) (.pair (.int .i64) (.int .i64))), (.int .i64)] x) : F_plaitlaw05_WaitsTell x = some true :=
  waitsTell x.1 x.2.1 x.2.2
end Go.Proofs.Ytegbkaaibgdheaa.VX.VxB_All
