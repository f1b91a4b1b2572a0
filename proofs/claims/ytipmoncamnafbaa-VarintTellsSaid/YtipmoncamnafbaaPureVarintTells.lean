import Derived.Test.YtipmoncamnafbaaX11
import Derived.Test.YtipmoncamnafbaaPl5
set_option linter.unusedVariables false
set_option linter.unusedSimpArgs false
namespace Go.Proofs.Ytipmoncamnafbaa.Pure
open Go.RowKit Go.Proofs.Ytipmoncamnafbaa.X Go.Proofs.YtipmoncamnafbaaW.PrintWords Go.Proofs.YtipmoncamnafbaaW.PrintLast

theorem VarintTells : plaitlaw03_VarintTells.Pure := by
  intro n text at_ hn htext hat
  have hn := wf_i64 hn
  refine ⟨60, ?_⟩
  unfold plaitlaw03_VarintTells.f
  have hsz := few3_size text
  rw [few3]
  simp only [Option.bind_some]
  generalize text.extract 0 (min text.size 200) = s at *
  -- the tail: the two reads
  have tail : ∀ k, 40 ≤ k → ∀ v t e, varint_Get.f 60 s at_ = some (v, t, e) → ∀ v' t' e', varint_Signed.f 60 s at_ = some (v', t', e') →
      plaitlaw03_VarintTells.j2 k s at_ v t e v' t' e' = some true := by
    intro k hk v t e hg v' t' e' hs
    obtain ⟨k, rfl⟩ : ∃ m, k = m + 3 := ⟨k - 3, by omega⟩
    rw [plaitlaw03_VarintTells.j2]
    by_cases hout : at_ < 0 ∨ (s.size : Int) < at_
    · rw [get_out s at_ hout 60 (by omega)] at hg
      rw [signed_of 60 s at_ 0 0 3 (get_out s at_ hout 60 (by omega)) (by omega) (by omega)] at hs
      cases hg
      have h0 : unfold_ 0 = 0 := by decide
      rw [h0] at hs
      cases hs
      by_cases h : at_ < 0
      · rw [if_pos h, plaitlaw03_VarintTells.j3]; rfl
      · rw [if_neg h, plaitlaw03_VarintTells.j3, if_pos (by simp; omega)]; rfl
    · obtain ⟨a, rfl⟩ : ∃ a : Nat, at_ = a := ⟨at_.toNat, by omega⟩
      rw [if_neg (by omega), plaitlaw03_VarintTells.j3, if_neg (by simp; omega), refGet_in s a (by omega) (by omega) (k + 1) (by omega)]
      rw [get_in s a (by omega) (by omega) 60 (by omega)] at hg
      have hc := getS_cases s a
      have hin : 0 ≤ (getS s a).1 ∧ (getS s a).1 ≤ 2147483647 := by
        rcases hc with h | h
        · exact h.2
        · omega
      rw [signed_of 60 s a (getS s a).1 (getS s a).2.1 (getS s a).2.2 (get_in s a (by omega) (by omega) 60 (by omega)) hin.1 hin.2] at hs
      cases hs
      simp only [Option.some.injEq] at hg
      simp only [Option.bind_some, hg, if_true]
      rw [plaitlaw03_VarintTells.j4, if_neg (by simp)]
      rw [hg] at hc hin
      by_cases he : e = 0
      · rw [if_pos he, refUnfold v hin.1 hin.2]
        simp
      · rw [if_neg he]
        rcases hc with h | h
        · exact absurd h.1 he
        · have h1 : v = 0 := h.2.1
          have h2 : t = 0 := h.2.2
          subst h1 h2
          have h0 : unfold_ 0 = 0 := by decide
          rw [if_pos h0]; rfl
  have mid : ∀ k, 45 ≤ k → ∀ b e, varint_Sign.f n = some (b, e) → ∀ v t g, varint_Get.f 60 s at_ = some (v, t, g) → ∀ v' t' g', varint_Signed.f 60 s at_ = some (v', t', g') →
      plaitlaw03_VarintTells.j0 k n s at_ b e v t g v' t' g' = some true := by
    intro k hk b e hb v t g hg v' t' g' hs
    obtain ⟨k, rfl⟩ : ∃ m, k = m + 2 := ⟨k - 2, by omega⟩
    rw [plaitlaw03_VarintTells.j0]
    by_cases hout : n < -1073741824 ∨ 1073741824 ≤ n
    · rw [sign_out n hout] at hb
      cases hb
      have : plaitlaw03_VarintTells.j1 (k + 1) n s at_ ⟨#[]⟩ 1 v t g v' t' g' true = some true := by
        rw [plaitlaw03_VarintTells.j1, if_pos rfl, if_pos rfl, if_pos toList_empty]
        exact tail k (by omega) _ _ _ hg _ _ _ hs
      by_cases h : n < -1073741824
      · rw [if_pos h]; exact this
      · rw [if_neg h, show decide (n ≥ 1073741824) = true by simp; omega]; exact this
    · rw [sign_in n (by omega) (by omega)] at hb
      cases hb
      have hf : 0 ≤ fold n ∧ fold n ≤ 2147483647 := by unfold fold; split <;> omega
      rw [if_neg (by omega), show decide (n ≥ 1073741824) = false by simp; omega, plaitlaw03_VarintTells.j1, if_neg (by simp), if_pos rfl, refFold n (by omega) (by omega)]
      simp only [Option.bind_some]
      rw [refPut' (fold n) k hf.1 (by omega) (by omega)]
      simp only [Option.bind_some, if_true]
      exact tail k (by omega) _ _ _ hg _ _ _ hs
  obtain ⟨⟨b, e⟩, hb⟩ : ∃ p, varint_Sign.f n = some p := by
    by_cases hout : n < -1073741824 ∨ 1073741824 ≤ n
    · exact ⟨_, sign_out n hout⟩
    · exact ⟨_, sign_in n (by omega) (by omega)⟩
  obtain ⟨⟨v, t, g⟩, hg⟩ : ∃ p, varint_Get.f 60 s at_ = some p := by
    by_cases hout : at_ < 0 ∨ (s.size : Int) < at_
    · exact ⟨_, get_out s at_ hout 60 (by omega)⟩
    · obtain ⟨a, rfl⟩ : ∃ a : Nat, at_ = a := ⟨at_.toNat, by omega⟩
      exact ⟨_, get_in s a (by omega) (by omega) 60 (by omega)⟩
  obtain ⟨⟨v', t', g'⟩, hs⟩ : ∃ p, varint_Signed.f 60 s at_ = some p := by
    unfold varint_Signed.f; rw [hg]; exact ⟨_, rfl⟩
  rw [hb, hg, hs]
  by_cases hsm : n < 0 ∨ 2147483647 < n
  · rw [small_out n hsm, alive3 60 (by omega), refSmall]
    simp only [Option.bind_some]
    rw [if_pos trivial, if_neg (by simp; omega), if_pos trivial, if_pos toList_empty]
    exact mid 60 (by omega) _ _ hb _ _ _ hg _ _ _ hs
  · rw [small_in n (by omega) (by omega), alive3 60 (by omega), refSmall, refPut' n 60 (by omega) (by omega) (by omega)]
    simp only [Option.bind_some]
    rw [if_pos trivial, if_pos (by simp; omega), if_pos trivial, if_pos trivial]
    exact mid 60 (by omega) _ _ hb _ _ _ hg _ _ _ hs
end Go.Proofs.Ytipmoncamnafbaa.Pure
