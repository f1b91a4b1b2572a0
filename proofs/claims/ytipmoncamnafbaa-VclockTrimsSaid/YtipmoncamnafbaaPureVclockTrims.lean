import Derived.Test.YtipmoncamnafbaaX19
import Derived.Test.YtipmoncamnafbaaPl8
set_option linter.unusedVariables false
set_option linter.unusedSimpArgs false
namespace Go.Proofs.Ytipmoncamnafbaa.Pure
open Go.RowKit Go.Proofs.Ytipmoncamnafbaa.X Go.Proofs.YtipmoncamnafbaaW.PrintWords Go.Proofs.YtipmoncamnafbaaW.PrintLast Go.Proofs.YtipmoncamnafbaaW.PrintMore

open Classical in
theorem VclockTrims : plaitlaw01_VclockTrims.Pure := by
  intro a b _ _ _ _ _ _
  refine ⟨100, ?_⟩
  unfold plaitlaw01_VclockTrims.f
  rw [few1, few1]
  simp only [Option.bind_some]
  generalize a.take 20 = a
  generalize b.take 20 = b
  have no : ∀ s e t f, (e = 0 ∨ s = []) → (f = 0 ∨ t = []) → plaitlaw01_VclockTrims.j0 100 a b s e t f true = some true := by
    intro s e t f h1 h2
    rw [plaitlaw01_VclockTrims.j0, if_pos rfl, alive1 _ (by omega)]
    simp only [Option.bind_some, if_true]
    have e2 : (if f = 0 then some true else some ((t.length : Int) == 0)) = some true := by
      rcases h2 with h | h
      · rw [if_pos h]
      · subst h; simp
    rcases h1 with h | h
    · rw [if_pos h]; exact e2
    · subst h
      rw [e2]; simp
  by_cases ha : vok a = true
  · rw [trim_ok a ha]
    by_cases hb : vok b = true
    · rw [trim_ok b hb]
      simp only [Option.bind_some, if_true]
      have hal := vok_len ha
      have hta : vok (vtrim a) = true := vok_vtrim (vok_len ha) (vok_iff.1 ha).2
      have htb : vok (vtrim b) = true := vok_vtrim (vok_len hb) (vok_iff.1 hb).2
      have htl := vok_len hta
      rw [show ((0 : Int) != 0) = false from rfl, plaitlaw01_VclockTrims.j0, if_neg (by simp), leq_ok a _ ha hta, leq_ok _ a hta ha, leq_ok a b ha hb, leq_ok b a hb ha, trim_ok _ hta, alive1 _ (by omega)]
      have l1 : leqP a (vtrim a) := fun i => by rw [vtrim_getD]; exact Int.le_refl _
      have l2 : leqP (vtrim a) a := fun i => by rw [vtrim_getD]; exact Int.le_refl _
      simp only [Option.bind_some, if_true, l1, l2, decide_true]
      rw [vtrim_idem, rows_self _ 99 (by omega) (by omega), rows_dec (vtrim a) (vtrim b) 99 (by omega) (by omega)]
      simp only [Option.bind_some, if_true]
      have hiff := vtrim_eq_iff a b ha hb
      have fin : (if decide (leqP a b) = true then some (decide (leqP b a) == decide (vtrim a = vtrim b)) else some (false == decide (vtrim a = vtrim b))) = some true := by
        by_cases h1 : leqP a b
        · by_cases h2 : leqP b a
          · simp [h1, h2, hiff]
          · simp [h1, h2, hiff]
        · simp [h1, hiff]
      rcases vtrim_last a with h | ⟨m, x, h, hx⟩
      · rw [if_pos (by rw [h]; rfl)]; exact fin
      · have hl : (vtrim a).length = m.length + 1 := by rw [h]; simp
        have hrd : rd (vtrim a) (((vtrim a).length : Int) - 1) = x := by
          rw [hl, show ((m.length + 1 : Nat) : Int) - 1 = (m.length : Int) by omega, rd_nat3, h]; simp
        rw [if_neg (by omega), wrap64_id (by omega) (by omega), if_pos (by omega), if_pos (by omega), hrd, if_neg hx]
        exact fin
    · rw [trim_no b hb]
      simp only [Option.bind_some, if_true]
      exact no _ _ _ _ (.inl rfl) (.inr rfl)
  · rw [trim_no a ha]
    by_cases hb : vok b = true
    · rw [trim_ok b hb]
      simp only [Option.bind_some]
      rw [if_neg (by decide)]
      exact no _ _ _ _ (.inr rfl) (.inl rfl)
    · rw [trim_no b hb]
      simp only [Option.bind_some]
      rw [if_neg (by decide)]
      exact no _ _ _ _ (.inr rfl) (.inr rfl)
end Go.Proofs.Ytipmoncamnafbaa.Pure
