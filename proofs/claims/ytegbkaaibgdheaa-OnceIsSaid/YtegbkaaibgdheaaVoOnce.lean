/- Plain laws of once: which may be, Do, End; OnceTells. -/
import Derived.Test.YtegbkaaibgdheaaVoLO
set_option linter.unusedVariables false
set_option linter.unusedSimpArgs false
namespace Go.Proofs.Ytegbkaaibgdheaa.VX.VxB_O
open Go.Proofs
abbrev On := Int × (Int × List W)
def zeroO : On := (0, 0, [])
def oOK (o : On) : Prop := 0 ≤ o.2.1 ∧ wOK o.2.2 ∧ ((o.1 = 1 ∧ ∀ w ∈ o.2.2, w.1 ≠ o.2.1) ∨ ((o.1 = 0 ∨ o.1 = 2) ∧ o.2.1 = 0 ∧ o.2.2.length = 0))
instance (o : On) : Decidable (oOK o) := by unfold oOK; infer_instance
theorem flen {l : List W} {g : Int} : ((((l.filter (notG g)).length : Nat) : Int) == ((l.length : Nat) : Int)) = decide (∀ w ∈ l, w.1 ≠ g) := by
  have h : (l.filter (notG g)).length = l.length ↔ ∀ w ∈ l, w.1 ≠ g := by
    rw [List.length_filter_eq_length_iff]
    constructor
    · intro h w hw; have := h w hw; unfold notG at this; simpa using this
    · intro h w hw; have := h w hw; unfold notG; simpa using this
  by_cases e : (l.filter (notG g)).length = l.length
  · rw [decide_eq_true (h.1 e)]; simp [e]
  · rw [decide_eq_false (fun q => e (h.2 q))]; simp; omega
theorem oRight_eq (o : On) (hl : o.2.2.length < 4611686018427387904) : F_once_Right o = some (decide (oOK o)) := by
  unfold F_once_Right oOK
  rw [wRight_eq _ hl]
  simp only [Option.bind_some]
  by_cases h1 : o.2.1 < 0
  · rw [bif_t (by simpa using h1)]; exact decF (by omega)
  · rw [bif_f (by simpa using h1)]
    by_cases h2 : wOK o.2.2
    · rw [bif_f (by simpa using h2)]
      by_cases h3 : o.1 = 1
      · rw [bif_t (by simpa using h3), wdrop_eq _ _ hl, if_pos h2, if_neg h1]
        simp only [Option.bind_some]
        rw [flen]
        exact decE ⟨fun h => ⟨by omega, h2, .inl ⟨h3, h⟩⟩, fun h => h.2.2.elim (·.2) (fun h => by omega)⟩
      · rw [bif_f (by simpa using h3)]
        have hz : ((((o.2.2.length : Nat) : Int)) == 0) = decide (o.2.2.length = 0) := by
          by_cases e : o.2.2.length = 0
          · rw [decide_eq_true e, e]; rfl
          · rw [decide_eq_false e]; simp; exact fun h => e (by simp [h])
        by_cases h4 : o.1 = 0
        · rw [bif_t (by simpa using h4)]
          by_cases h5 : o.2.1 = 0
          · rw [bif_t (by simpa using h5), hz]; exact decE ⟨fun h => ⟨by omega, h2, .inr ⟨.inl h4, h5, h⟩⟩, fun h => h.2.2.elim (fun h => by omega) (fun h => h.2.2)⟩
          · rw [bif_f (by simpa using h5)]; exact decF (fun h => h.2.2.elim (fun h => by omega) (fun h => h5 h.2.1))
        · rw [bif_f (by simpa using h4)]
          by_cases h6 : o.1 = 2
          · rw [bif_t (by simpa using h6)]
            by_cases h5 : o.2.1 = 0
            · rw [bif_t (by simpa using h5), hz]; exact decE ⟨fun h => ⟨by omega, h2, .inr ⟨.inr h6, h5, h⟩⟩, fun h => h.2.2.elim (fun h => by omega) (fun h => h.2.2)⟩
            · rw [bif_f (by simpa using h5)]; exact decF (fun h => h.2.2.elim (fun h => by omega) (fun h => h5 h.2.1))
          · rw [bif_f (by simpa using h6)]; exact decF (fun h => h.2.2.elim (fun h => by omega) (fun h => by omega))
    · rw [bif_t (by simpa using h2)]; exact decF (fun h => h2 h.2.1)
theorem refORight_eq (o : On) (hl : o.2.2.length ≤ 70) : F_plaitref11_Right o = some (decide (oOK o)) := by
  unfold F_plaitref11_Right oOK
  rw [refRight_eq _ (by omega)]
  simp only [Option.bind_some]
  by_cases h0 : o.1 < 0
  · rw [bif_t (by simpa using h0)]; exact decF (fun h => h.2.2.elim (fun h => by omega) (fun h => by omega))
  rw [bif_f (by simpa using h0)]
  by_cases h00 : o.1 > 2
  · rw [bif_t (by simpa using h00)]; exact decF (fun h => h.2.2.elim (fun h => by omega) (fun h => by omega))
  rw [bif_f (by simpa using h00)]
  by_cases h1 : o.2.1 < 0
  · rw [bif_t (by simpa using h1)]; exact decF (by omega)
  · rw [bif_f (by simpa using h1)]
    by_cases h2 : wOK o.2.2
    · rw [bif_f (by simpa using h2)]
      by_cases h3 : o.1 = 1
      · rw [bif_f (by simpa using h3), refDrop_eq _ _ (by omega)]
        simp only [Option.bind_some]
        rw [flen]
        exact decE ⟨fun h => ⟨by omega, h2, .inl ⟨h3, h⟩⟩, fun h => h.2.2.elim (·.2) (fun h => by omega)⟩
      · rw [bif_t (by simpa using h3)]
        have hz : ((((o.2.2.length : Nat) : Int)) == 0) = decide (o.2.2.length = 0) := by
          by_cases e : o.2.2.length = 0
          · rw [decide_eq_true e, e]; rfl
          · rw [decide_eq_false e]; simp; exact fun h => e (by simp [h])
        by_cases h5 : o.2.1 = 0
        · rw [bif_t (by simpa using h5), hz]; exact decE ⟨fun h => ⟨by omega, h2, .inr ⟨by omega, h5, h⟩⟩, fun h => h.2.2.elim (fun h => by omega) (fun h => h.2.2)⟩
        · rw [bif_f (by simpa using h5)]; exact decF (fun h => h.2.2.elim (fun h => by omega) (fun h => h5 h.2.1))
    · rw [bif_t (by simpa using h2)]; exact decF (fun h => h2 h.2.1)
theorem oSame_refl (o : On) (hl : o.2.2.length < 4611686018427387904) : F_plaitref11_Same (o, o) = some true := by
  unfold F_plaitref11_Same
  rw [bif_t (by simp), bif_t (by simp), same_eq hl]
  simp
def done (o : On) (w : W) : On × Int × Int := if o.1 = 0 then ((1, w.1, []), 0, 0) else if o.1 = 2 then (o, 2, 0) else if o.2.1 = w.1 then (zeroO, 0, 6) else if (pushW o.2.2 w).2 = 0 then ((o.1, o.2.1, (pushW o.2.2 w).1), 1, 0) else (zeroO, 0, (pushW o.2.2 w).2)
theorem do_eq (o : On) (w : W) (hl : o.2.2.length < 4611686018427387904) : F_once_Do (o, w) = some (if oOK o ∧ isW w then done o w else (zeroO, 0, 1)) := by
  unfold F_once_Do
  rw [oRight_eq _ hl]
  simp only [Option.bind_some]
  by_cases h : oOK o
  · rw [bif_f (by simpa using h)]
    by_cases h1 : w.1 < 0
    · rw [bif_t (by simpa using h1), if_neg (fun e => by have := e.2.1; omega)]; rfl
    rw [bif_f (by simpa using h1)]
    by_cases h2 : w.2.1 < 0
    · rw [bif_t (by simpa using h2), if_neg (fun e => by have := e.2.2.1; omega)]; rfl
    rw [bif_f (by simpa using h2)]
    by_cases h3 : w.2.2 < 0
    · rw [bif_t (by simpa using h3), if_neg (fun e => by have := e.2.2.2; omega)]; rfl
    rw [bif_f (by simpa using h3), if_pos ⟨h, by omega, by omega, by omega⟩]
    unfold done
    by_cases h4 : o.1 = 0
    · rw [bif_t (by simpa using h4), if_pos h4]; rfl
    rw [bif_f (by simpa using h4), if_neg h4]
    by_cases h5 : o.1 = 1
    · rw [bif_t (by simpa using h5), if_neg (by omega)]
      unfold F_once_queue
      simp only
      by_cases h6 : o.2.1 = w.1
      · rw [bif_t (by simpa using h6), if_pos h6]; rfl
      · rw [bif_f (by simpa using h6), if_neg h6, wpush_eq _ _ hl]
        show (Option.bind (Option.bind (some (pushW o.2.2 w)) _) _) = _
        simp only [Option.bind_some]
        by_cases h7 : (pushW o.2.2 w).2 = 0
        · rw [bif_f (by simpa using h7), if_pos h7]; rfl
        · rw [bif_t (by simpa using h7), if_neg h7]; rfl
    · have h6 : o.1 = 2 := by
        rcases h.2.2 with e | e
        · exact absurd e.1 h5
        · omega
      rw [bif_f (by simpa using h5), bif_t (by simpa using h6), if_pos h6]; rfl
  · rw [bif_t (by simpa using h), if_neg (fun e => h e.1)]; rfl
def ended (o : On) (g : Int) : On × List W × Int := if o.1 = 1 ∧ o.2.1 = g then ((2, 0, []), o.2.2, 0) else (zeroO, [], 6)
theorem end_eq (o : On) (g : Int) (hl : o.2.2.length < 4611686018427387904) : F_once_End (o, g) = some (if oOK o ∧ 0 ≤ g then ended o g else (zeroO, [], 1)) := by
  unfold F_once_End
  rw [oRight_eq _ hl]
  simp only [Option.bind_some]
  by_cases h : oOK o
  · rw [bif_f (by simpa using h)]
    by_cases h1 : g < 0
    · rw [bif_t (by simpa using h1), if_neg (by omega)]; rfl
    rw [bif_f (by simpa using h1), if_pos ⟨h, by omega⟩]
    unfold ended
    by_cases h2 : o.1 = 1
    · rw [bif_f (by simpa using h2)]
      by_cases h3 : o.2.1 = g
      · rw [bif_f (by simpa using h3), if_pos ⟨h2, h3⟩]
      · rw [bif_t (by simpa using h3), if_neg (fun e => h3 e.2)]; rfl
    · rw [bif_t (by simpa using h2), if_neg (fun e => h2 e.1)]; rfl
  · rw [bif_t (by simpa using h), if_neg (fun e => h e.1)]; rfl
theorem refDo_eq (o : On) (w : W) (hl : o.2.2.length ≤ 70) (h : oOK o) (hw : isW w) : F_plaitref11_Do (o, w) = some (done o w) := by
  unfold F_plaitref11_Do done
  simp only
  by_cases h4 : o.1 = 0
  · rw [bif_t (by simpa using h4), if_pos h4]
  rw [bif_f (by simpa using h4), if_neg h4]
  by_cases h5 : o.1 = 2
  · rw [bif_t (by simpa using h5), if_pos h5]
  rw [bif_f (by simpa using h5), if_neg h5]
  by_cases h6 : o.2.1 = w.1
  · rw [bif_t (by simpa using h6), if_pos h6]; rfl
  have hh : F_plaitref05_Has (o.2.2, w.1, w.2.1) = some (decide (keyW w ∈ o.2.2.map keyW)) := has_eq o.2.2 w.1 w.2.1 (by omega)
  rw [bif_f (by simpa using h6), if_neg h6, hh]
  simp only [Option.bind_some]
  unfold pushW
  rw [if_pos h.2.1, if_pos hw]
  by_cases h3 : keyW w ∈ o.2.2.map keyW
  · rw [bif_t (by simpa using h3), if_pos h3]; rfl
  · rw [bif_f (by simpa using h3), if_neg h3]
    by_cases h4 : o.2.2.length = 64
    · rw [bif_t (by simp [h4]), if_pos h4]; rfl
    · rw [bif_f (beq_eq_false_iff_ne.2 (by omega)), if_neg h4, bif_t (fits_iff.2 (by simp; omega)), bif_t (fits_iff.2 (by simp; omega))]
      rfl
theorem refEnd_eq (o : On) (g : Int) : F_plaitref11_End (o, g) = some (if o.1 = 1 ∧ o.2.1 = g then ((2, 0, []), o.2.2, true) else (zeroO, [], false)) := by
  unfold F_plaitref11_End
  simp only
  by_cases h2 : o.1 = 1
  · rw [bif_f (by simpa using h2)]
    by_cases h3 : o.2.1 = g
    · rw [bif_f (by simpa using h3), if_pos ⟨h2, h3⟩]
    · rw [bif_t (by simpa using h3), if_neg (fun e => h3 e.2)]; rfl
  · rw [bif_t (by simpa using h2), if_neg (fun e => h2 e.1)]; rfl
theorem oalive_eq : F_plaitlaw11_alive () = some true := by
  unfold F_plaitlaw11_alive
  rw [do_eq _ _ (by decide), if_pos (by decide)]
  simp only [Option.bind_some]
  rw [do_eq _ _ (by decide), if_pos (by decide)]
  simp only [Option.bind_some]
  rw [end_eq _ _ (by decide), if_pos (by decide)]
  simp only [Option.bind_some]
  rw [do_eq _ _ (by decide), if_pos (by decide)]
  simp only [Option.bind_some]
  rfl
theorem ofew_eq (o : On) : F_plaitlaw11_few o = some (o.1, o.2.1, o.2.2.take 70) := by
  have := wfew_eq o.2.2
  unfold F_plaitlaw05_few at this
  rw [bif_t (sub3L.2 (by omega))] at this
  unfold F_plaitlaw11_few
  rw [bif_t (sub3L.2 (by omega))]
  have := Option.some.inj this
  rw [this]
theorem done_len {o : On} {w : W} (hl : o.2.2.length ≤ 70) : (done o w).1.2.2.length ≤ 71 := by
  unfold done
  split
  · simp
  · split
    · simp only; omega
    · split
      · simp [zeroO]
      · split
        · rename_i h
          simp only
          unfold pushW at h ⊢
          repeat' split
          all_goals simp <;> omega
        · simp [zeroO]
theorem onceTells (o0 : On) (w : W) (g : Int) : F_plaitlaw11_OnceTells (o0, w, g) = some true := by
  unfold F_plaitlaw11_OnceTells
  simp only
  have hfew := ofew_eq o0
  have hl : (o0.1, o0.2.1, o0.2.2.take 70).2.2.length ≤ 70 := by simp; omega
  generalize (o0.1, o0.2.1, o0.2.2.take 70) = o at hfew hl
  rw [hfew]
  simp only [Option.bind_some]
  rw [do_eq o w (by omega), end_eq o g (by omega), refORight_eq o hl, oRight_eq o (by omega), oalive_eq, may_eq w]
  simp only [Option.bind_some]
  have hz : F_plaitref11_Same (zeroO, (0, 0, [])) = some true := oSame_refl zeroO (by decide)
  rw [bif_f (by simp [Ty.beq]), bif_f (by rfl)]
  by_cases h : oOK o
  · rw [decide_eq_true h]
    have hq := done_len (w := w) hl
    have hd : isW w → F_plaitref11_Do (o, w) = some (done o w) := refDo_eq o w hl h
    have hsame : F_plaitref11_Same ((done o w).1, (done o w).1) = some true := oSame_refl _ (by omega)
    have hrest : ∀ (q : Bool), q = true → (bif (!true) then (bif ((if oOK o ∧ isW w then done o w else (zeroO, 0, 1)).2.2 == (1 : Int)) then bif ((if oOK o ∧ isW w then done o w else (zeroO, 0, 1)).2.1 == (0 : Int)) then (F_plaitref11_Same ((if oOK o ∧ isW w then done o w else (zeroO, 0, 1)).1, ((0 : Int), ((0 : Int), ([] : List (Int × (Int × Int))))))).bind fun r9 => some r9 else some false else some false) else
        (bif (!decide (isW w)) then (bif ((if oOK o ∧ isW w then done o w else (zeroO, 0, 1)).2.2 == (1 : Int)) then bif ((if oOK o ∧ isW w then done o w else (zeroO, 0, 1)).2.1 == (0 : Int)) then (F_plaitref11_Same ((if oOK o ∧ isW w then done o w else (zeroO, 0, 1)).1, ((0 : Int), ((0 : Int), ([] : List (Int × (Int × Int))))))).bind fun r9 => some r9 else some false else some false) else
        (F_plaitref11_Do (o, w)).bind fun r9 => bif ((if oOK o ∧ isW w then done o w else (zeroO, 0, 1)).2.2 == r9.2.2) then bif ((if oOK o ∧ isW w then done o w else (zeroO, 0, 1)).2.1 == r9.2.1) then (F_plaitref11_Same ((if oOK o ∧ isW w then done o w else (zeroO, 0, 1)).1, r9.1)).bind fun r10 => some r10 else some false else some false)) = some true := by
      intro _ _
      rw [bif_f (by rfl)]
      by_cases hw : isW w
      · rw [bif_f (by simpa using hw), if_pos ⟨h, hw⟩, hd hw]
        simp only [Option.bind_some]
        rw [bif_t (by simp), bif_t (by simp), hsame]; rfl
      · rw [bif_t (by simpa using hw), if_neg (fun e => hw e.2), bif_t (by rfl), bif_t (by rfl), hz]; rfl
    rw [bif_f (by rfl)]
    by_cases hg : g < 0
    · rw [bif_t (by simpa using hg), if_neg (c := oOK o ∧ 0 ≤ g) (by omega), bif_f (by rfl), bif_f (by rfl), hz]
      simp only [Option.bind_some]
      rw [bif_f (by rfl)]
      exact hrest true rfl
    · rw [bif_f (by simpa using hg), if_pos (c := oOK o ∧ 0 ≤ g) ⟨h, by omega⟩, refEnd_eq]
      simp only [Option.bind_some]
      unfold ended
      by_cases he : o.1 = 1 ∧ o.2.1 = g
      · rw [if_pos he, if_pos he]
        rw [bif_f (by rfl), bif_f (by rfl), same_eq (by simp only; omega)]
        simp only [Option.bind_some]
        rw [bif_f (by simp), oSame_refl _ (by simp)]
        simp only [Option.bind_some]
        rw [bif_f (by rfl)]
        exact hrest true rfl
      · rw [if_neg he, if_neg he]
        rw [bif_t (by rfl), bif_f (by rfl), bif_f (by rfl), hz]
        simp only [Option.bind_some]
        rw [bif_f (by rfl)]
        exact hrest true rfl
  · rw [decide_eq_false h, if_neg (fun e => h e.1), if_neg (fun e => h e.1), bif_t (by rfl), bif_f (by rfl), bif_f (by rfl), hz]
    simp only [Option.bind_some]
    rw [bif_f (by rfl), bif_t (by rfl), bif_t (by rfl), bif_t (by rfl)]
theorem onceTells_law (x : HL [.pair (.int .i64) (.pair (.int .i64) (.slice (.pair (.int .i64) (.pair (.int .i64) (.int .i64))))), .pair (.int .i64) (.pair (.int .i64) (.int .i64)), .int .i64]) (h : wfHL [.pair (.int .i64) (.pair (.int .i64) (.slice (.pair (.int .i64) (.pair (.int .i64) (.int .i64))))), .pair (.int .i64) (.pair (.int .i64) (.int .i64)), .int .i64] x) : F_plaitlaw11_OnceTells x = some true := onceTells x.1 x.2.1 x.2.2
end Go.Proofs.Ytegbkaaibgdheaa.VX.VxB_O
