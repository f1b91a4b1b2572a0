import Derived.Test.YtipmoncamnafbaaX12
import Derived.Test.YtipmoncamnafbaaPl6
set_option linter.unusedVariables false
set_option linter.unusedSimpArgs false
namespace Go.Proofs.Ytipmoncamnafbaa.Pure
open Go.RowKit Go.Proofs.Ytipmoncamnafbaa.X Go.Proofs.YtipmoncamnafbaaW.PrintWords Go.Proofs.YtipmoncamnafbaaW.PrintLast

theorem order_j0 (k : Nat) (a b : Int) (ha : 0 ≤ a) (hab : a ≤ b) (hb : b ≤ 2147483647) (hk : 20 ≤ k) : plaitlaw03_VarintOrder.j0 k a b = some true := by
  obtain ⟨k, rfl⟩ : ∃ m, k = m + 1 := ⟨k - 1, by omega⟩
  have hm := putN_mono b.toNat a.toNat (by omega)
  have hp := putN_pos a.toNat
  rw [plaitlaw03_VarintOrder.j0, small_in a ha (by omega), small_in b (by omega) hb, alive3 k (by omega)]
  simp only [Option.bind_some, if_true, strOfNums_size]
  rw [if_neg (by omega), if_neg (by omega)]
  by_cases h : a = b
  · subst h
    rw [if_neg (by simp), if_pos rfl]
  · have hne : ¬ (strOfNums (putN a.toNat)).toList = (strOfNums (putN b.toNat)).toList := by
      rw [toList_inj]; intro h2; have := strOfNums_inj h2; omega
    rw [if_neg (by rw [beq_eq_false_iff_ne.mpr hne, beq_eq_false_iff_ne.mpr h]; simp), if_neg h, if_pos (by omega), if_pos (by omega)]
    congr 1
    rw [bne_iff_ne, ne_eq, toList_inj]
    intro h2
    have h3 := congrArg nb h2
    rw [nb_extract, nb_put, nb_put, List.drop_zero] at h3
    have := putN_prefix a.toNat b.toNat (by omega) (by omega) (by simpa using h3)
    omega
theorem VarintOrder : plaitlaw03_VarintOrder.Pure := by
  intro a b ha hb
  have ha := wf_i64 ha
  have hb := wf_i64 hb
  refine ⟨60, ?_⟩
  unfold plaitlaw03_VarintOrder.f
  rw [cut31, cut31]
  split
  · exact order_j0 60 _ _ (by omega) (by omega) (by omega) (by omega)
  · exact order_j0 60 _ _ (by omega) (by omega) (by omega) (by omega)
end Go.Proofs.Ytipmoncamnafbaa.Pure
