import Derived.Test.YtipmoncamnafbaaX18
import Derived.Test.YtipmoncamnafbaaPl8
set_option linter.unusedVariables false
set_option linter.unusedSimpArgs false
namespace Go.Proofs.Ytipmoncamnafbaa.Pure
open Go.RowKit Go.Proofs.Ytipmoncamnafbaa.X Go.Proofs.YtipmoncamnafbaaW.PrintWords Go.Proofs.YtipmoncamnafbaaW.PrintLast Go.Proofs.YtipmoncamnafbaaW.PrintMore

theorem can_ext (a b : List Int) (ha : vtrim a = a) (hb : vtrim b = b) (h : ∀ i, a.getD i 0 = b.getD i 0) : a = b := by
  rw [← ha, ← hb]; exact vtrim_ext a b h
open Classical in
theorem joins_j0 (a b c : List Int) (ha : vok a = true) (hb : vok b = true) (k : Nat) (hk : 40 ≤ k) : plaitlaw01_VclockJoins.j0 k a b c (jT a b) false = some true := by
  obtain ⟨k, rfl⟩ : ∃ m, k = m + 1 := ⟨k - 1, by omega⟩
  have hab := jT_ok a b ha hb
  rw [plaitlaw01_VclockJoins.j0, if_neg (by simp)]
  by_cases hc : vok c = true
  · have hbc := jT_ok b c hb hc
    rw [join_ok _ c hab hc, join_ok b c hb hc]
    simp only [Option.bind_some, if_true]
    rw [join_ok a _ ha hbc, leq_ok a c ha hc, leq_ok b c hb hc, leq_ok _ c hab hc]
    simp only [Option.bind_some, if_true]
    have e : jT (jT a b) c = jT a (jT b c) := by
      refine can_ext _ _ (jT_trim _ _) (jT_trim _ _) (fun i => ?_)
      rw [jT_getD _ c hab hc, jT_getD a b ha hb, jT_getD a _ ha hbc, jT_getD b c hb hc]; omega
    have hl := vok_len (jT_ok a (jT b c) ha hbc)
    rw [e, rows_self _ k (by omega) (by omega)]
    simp only [Option.bind_some, if_true]
    have hiff : leqP (jT a b) c ↔ leqP a c ∧ leqP b c := by
      constructor
      · intro h
        exact ⟨fun i => by have := h i; rw [jT_getD a b ha hb] at this; omega, fun i => by have := h i; rw [jT_getD a b ha hb] at this; omega⟩
      · intro h i
        have h1 := h.1 i
        have h2 := h.2 i
        rw [jT_getD a b ha hb]; omega
    by_cases h1 : leqP a c
    · by_cases h2 : leqP b c
      · have h3 : leqP (jT a b) c := hiff.2 ⟨h1, h2⟩
        simp [h1, h2, h3]
      · have h3 : ¬ leqP (jT a b) c := fun h => h2 (hiff.1 h).2
        simp [h1, h2, h3]
    · have h3 : ¬ leqP (jT a b) c := fun h => h1 (hiff.1 h).1
      simp [h1, h3]
  · rw [join_no _ c (fun h => hc h.2), join_no b c (fun h => hc h.2)]
    simp
open Classical in
theorem VclockJoins : plaitlaw01_VclockJoins.Pure := by
  intro a b c _ _ _ _ _ _ _ _ _
  refine ⟨100, ?_⟩
  unfold plaitlaw01_VclockJoins.f
  rw [few1, few1, few1]
  simp only [Option.bind_some]
  generalize a.take 20 = a
  generalize b.take 20 = b
  generalize c.take 20 = c
  by_cases h : vok a = true ∧ vok b = true
  · obtain ⟨ha, hb⟩ := h
    have hab := jT_ok a b ha hb
    rw [join_ok a b ha hb, join_ok b a hb ha]
    simp only [Option.bind_some, if_true]
    rw [leq_ok a _ ha hab, leq_ok b _ hb hab, join_ok _ a hab ha, leq_ok a b ha hb, leq_ok _ b hab hb]
    simp only [Option.bind_some, if_true]
    have e1 : jT b a = jT a b := by
      refine can_ext _ _ (jT_trim _ _) (jT_trim _ _) (fun i => ?_)
      rw [jT_getD b a hb ha, jT_getD a b ha hb]; omega
    have e2 : jT (jT a b) a = jT a b := by
      refine can_ext _ _ (jT_trim _ _) (jT_trim _ _) (fun i => ?_)
      rw [jT_getD _ a hab ha, jT_getD a b ha hb]; omega
    have hl := vok_len hab
    have l1 : leqP a (jT a b) := fun i => by rw [jT_getD a b ha hb]; omega
    have l2 : leqP b (jT a b) := fun i => by rw [jT_getD a b ha hb]; omega
    have l3 : leqP a b ↔ leqP (jT a b) b := by
      constructor
      · intro h i; have := h i; rw [jT_getD a b ha hb]; omega
      · intro h i; have := h i; rw [jT_getD a b ha hb] at this; omega
    rw [e1, e2, rows_self _ 100 (by omega) (by omega), alive1 100 (by omega)]
    have l4 : decide (leqP a b) = decide (leqP (jT a b) b) := by rw [decide_eq_decide]; exact l3
    simp only [Option.bind_some, if_true, l1, l2, l4, decide_true]
    rw [if_neg (by simp)]
    exact joins_j0 a b c ha hb 100 (by omega)
  · rw [join_no a b h, join_no b a (fun h2 => h ⟨h2.2, h2.1⟩), alive1 100 (by omega)]
    simp
end Go.Proofs.Ytipmoncamnafbaa.Pure
