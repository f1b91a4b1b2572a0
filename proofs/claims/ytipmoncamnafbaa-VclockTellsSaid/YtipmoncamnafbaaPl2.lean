/- Plain lemmas on the printed functions of packages vclock, epoch and their references. -/
import Derived.Test.YtipmoncamnafbaaX4
import Derived.Test.YtipmoncamnafbaaPl1
set_option linter.unusedVariables false
set_option linter.unusedSimpArgs false
namespace Go.Proofs.Ytipmoncamnafbaa.Pure
open Go.RowKit Go.Proofs.Ytipmoncamnafbaa.X Go.Proofs.YtipmoncamnafbaaW.PrintWords Go.Proofs.YtipmoncamnafbaaW.PrintLast

theorem mn20 (n : Nat) : mn (n : Int) 20 = ((min n 20 : Nat) : Int) := by
  unfold mn; split <;> omega
theorem few2 (l : List Int) : plaitlaw02_few.f l = some (l.take 20) := by
  unfold plaitlaw02_few.f
  rw [mn20, if_pos (by omega), if_pos (by omega)]
  congr 1
  rw [Int.toNat_natCast]
  by_cases h : l.length ≤ 20
  · rw [Nat.min_eq_left h, List.take_of_length_le (Nat.le_refl _), List.take_of_length_le h]
  · rw [Nat.min_eq_right (by omega)]
theorem unpack_in (e : Int) (h1 : 0 ≤ e) (h2 : e ≤ 17592186044431) : epoch_Unpack.f e = some (e / 16, e % 16, 0) := by
  unfold epoch_Unpack.f
  rw [if_neg (by omega), if_neg (by omega)]
  have := and_mask 4 (by decide) e h1 (by omega)
  rw [show (2 : Int) ^ 4 - 1 = 15 from rfl] at this
  rw [this]; rfl
theorem unpack_out (e : Int) (h : e < 0 ∨ 17592186044431 < e) : epoch_Unpack.f e = some (0, 0, 1) := by
  unfold epoch_Unpack.f
  by_cases h1 : e < 0
  · rw [if_pos h1]
  · rw [if_neg h1, if_pos (by omega)]
theorem at_in (l : List Int) (g : Int) (h1 : 0 ≤ g) (h2 : g < 16) : vclock_At.f l g = some (if vok l then ((whole l).getD g.toNat 0, 0) else (0, 1)) := by
  unfold vclock_At.f
  rw [if_neg (by omega : ¬ g < 0), if_neg (by omega : ¬ 16 ≤ g)]
theorem known_in (e : Int) (l : List Int) (h1 : 0 ≤ e) (h2 : e ≤ 17592186044431) :
    epoch_Known.f e l = some (if vok l then (decide (e / 16 ≤ (whole l).getD (e % 16).toNat 0), 0) else (false, 1)) := by
  unfold epoch_Known.f
  rw [unpack_in e h1 h2]
  simp only [Option.bind_some, if_true]
  rw [at_in l (e % 16) (by omega) (by omega)]
  simp only [Option.bind_some]
  by_cases h : vok l = true
  · simp [h]
  · simp [h]
theorem known_out (e : Int) (l : List Int) (h : e < 0 ∨ 17592186044431 < e) : epoch_Known.f e l = some (false, 1) := by
  unfold epoch_Known.f
  rw [unpack_out e h]; rfl
theorem whole_getD (l : List Int) (i : Nat) : (whole l).getD i 0 = l.getD i 0 := by
  simp only [whole, List.getD_eq_getElem?_getD, List.getElem?_append, List.getElem?_replicate]
  by_cases h : i < l.length
  · rw [if_pos h]
  · rw [if_neg h, List.getElem?_eq_none (by omega)]
    split <;> rfl
theorem rd_nat (l : List Int) (i : Nat) : rd l (i : Int) = l.getD i 0 := by
  simp [rd]
theorem refAt (l : List Int) (g : Int) (h : 0 ≤ g) : plaitref01_At.f l g = some (l.getD g.toNat 0) := by
  obtain ⟨n, rfl⟩ : ∃ n : Nat, g = n := ⟨g.toNat, by omega⟩
  unfold plaitref01_At.f
  by_cases h1 : (n : Int) < (l.length : Int)
  · rw [if_pos h1, if_pos h, rd_nat]; rfl
  · rw [if_neg h1]; simp; rw [List.getElem?_eq_none (by omega)]; rfl
theorem refRight_l (l : List Int) (hl : l.length ≤ 20) (d : Nat) : ∀ (k i : Nat), d < k → i + d = l.length → (l.take i).all tickOk = true →
    plaitref01_Right.l0 k l l (l.length : Int) i = some (vok l) := by
  induction d with
  | zero =>
    intro k i hk hi hall
    obtain ⟨k, rfl⟩ : ∃ m, k = m + 1 := ⟨k - 1, by omega⟩
    rw [plaitref01_Right.l0, if_neg (by omega)]
    rw [List.take_of_length_le (by omega)] at hall
    congr 1
    unfold vok
    rw [hall, Bool.and_true]
    rw [decide_eq_decide]; omega
  | succ d ih =>
    intro k i hk hi hall
    obtain ⟨k, rfl⟩ : ∃ m, k = m + 1 := ⟨k - 1, by omega⟩
    have hil : i < l.length := by omega
    have hx : rd l (i : Int) = l[i] := by rw [rd_nat]; simp [hil]
    have hts : (l.take (i + 1)).all tickOk = ((l.take i).all tickOk && tickOk l[i]) := by
      rw [List.take_succ_eq_append_getElem hil, List.all_append]; simp
    rw [plaitref01_Right.l0, if_pos (by omega), if_pos (by omega), if_pos (by omega), hx]
    have bad : tickOk l[i] = false → some false = some (vok l) := by
      intro h
      congr 1
      have hf : l.all tickOk = false := by
        rw [List.all_eq_false]; exact ⟨l[i], List.getElem_mem hil, by simp [h]⟩
      unfold vok
      rw [hf, Bool.and_false]
    by_cases h1 : l[i] < 0
    · rw [if_pos h1]; exact bad (by simp [tickOk]; omega)
    · rw [if_neg h1]
      by_cases h2 : l[i] > 1099511627776
      · rw [if_pos h2]; exact bad (by simp [tickOk]; omega)
      · rw [if_neg h2, wrap64_id (by omega) (by omega)]
        exact ih k (i + 1) (by omega) (by omega) (by rw [hts, hall]; simp [tickOk]; omega)
theorem refRight (k : Nat) (l : List Int) (hl : l.length ≤ 20) (hk : 30 ≤ k) : plaitref01_Right.f k l = some (vok l) :=
  refRight_l l hl l.length k 0 (by omega) (by omega) (by simp)
theorem refKnown (e : Int) (l : List Int) (h1 : 0 ≤ e) (h2 : e ≤ 17592186044431) : plaitref02_Known.f e l = some (decide (e / 16 ≤ (whole l).getD (e % 16).toNat 0)) := by
  unfold plaitref02_Known.f
  rw [tmod_cases, tdiv_cases, if_pos h1, if_pos h1, refAt l (e % 16) (by omega), wrap64_id (by omega) (by omega), whole_getD]
  rfl
end Go.Proofs.Ytipmoncamnafbaa.Pure
