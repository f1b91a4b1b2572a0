/- Plain lemmas on the printed functions of package epoch. -/
import Derived.Test.YtipmoncamnafbaaX1
import Derived.Test.YtipmoncamnafbaaGiven
set_option linter.unusedVariables false
set_option linter.unusedSimpArgs false
namespace Go.Proofs.Ytipmoncamnafbaa.Pure
open Go.RowKit Go.Proofs.Ytipmoncamnafbaa.X Go.Proofs.YtipmoncamnafbaaW.PrintWords Go.Proofs.YtipmoncamnafbaaW.PrintLast

theorem tmod_cases (a b : Int) : Int.tmod a b = if 0 ≤ a then a % b else -((-a) % b) := by
  split
  · rw [Int.tmod_eq_emod_of_nonneg (by assumption)]
  · have : a = -(-a) := by omega
    conv => lhs; rw [this]
    rw [Int.neg_tmod, Int.tmod_eq_emod_of_nonneg (by omega)]
theorem tdiv_cases (a b : Int) : Int.tdiv a b = if 0 ≤ a then a / b else -((-a) / b) := by
  split
  · rw [Int.tdiv_eq_ediv_of_nonneg (by assumption)]
  · have : a = -(-a) := by omega
    conv => lhs; rw [this]
    rw [Int.neg_tdiv, Int.tdiv_eq_ediv_of_nonneg (by omega)]
theorem wf_i64 {a : Int} (h : (Lit.int .i64 a).wf = true) : -9223372036854775808 ≤ a ∧ a ≤ 9223372036854775807 := by
  simpa [Lit.wf, IntKind.min, IntKind.max, IntKind.signed, IntKind.bits] using h
theorem wrap64_id {a : Int} (h1 : -9223372036854775808 ≤ a) (h2 : a ≤ 9223372036854775807) : wrap64 a = a := by unfold wrap64; omega

theorem shift_in (k : Nat) (v n : Int) (h1 : -64 ≤ n) (h2 : n ≤ 64) : epoch_Shift.f (k + 1) v n = some (if n < 0 then v / 2 ^ (-n).toNat else wrap64 (v * 2 ^ n.toNat), 0) := by
  unfold epoch_Shift.f
  rw [if_neg (by omega)]
  simp only [epoch_Shift.j0]
  rw [if_neg (by simp; omega)]
  by_cases h : n < 0
  · rw [if_pos h, if_pos h, wrap64_id (by omega) (by omega), if_pos (by omega)]
    unfold shr
    rw [Nat.min_eq_left (show (-n).toNat ≤ IntKind.i64.bits by simp [IntKind.bits]; omega)]
  · rw [if_neg h, if_neg h, if_pos (by omega)]
    unfold shl
    rw [Nat.min_eq_left (show n.toNat ≤ IntKind.i64.bits by simp [IntKind.bits]; omega), ← i64_w]
theorem shift_out (k : Nat) (v n : Int) (h : n < -64 ∨ 64 < n) : epoch_Shift.f (k + 1) v n = some (0, 1) := by
  unfold epoch_Shift.f
  by_cases h1 : n < -64
  · rw [if_pos h1]; simp only [epoch_Shift.j0]; rfl
  · rw [if_neg h1]; simp only [epoch_Shift.j0]
    rw [if_pos (by simp; omega)]
theorem pack_in (k : Nat) (t g : Int) (h1 : 0 ≤ t) (h2 : t ≤ 1099511627776) (h3 : 0 ≤ g) (h4 : g ≤ 15) : epoch_Pack.f (k + 1) t g = some (16 * t + g, 0) := by
  unfold epoch_Pack.f
  rw [if_neg (by omega)]
  simp only [epoch_Pack.j0]
  rw [if_neg (by simp; omega), if_neg (by omega), if_neg (by omega), wrap64_id (by omega) (by omega),
    bits_join .i64 63 (by decide) wraps_i64 4 (t * 16) g (by omega) (by omega) (by omega) h3 (by omega) (by omega)]
  congr 2; omega
theorem pack_arg (k : Nat) (t g : Int) (h : t < 0 ∨ 1099511627776 < t) : epoch_Pack.f (k + 1) t g = some (0, 1) := by
  unfold epoch_Pack.f
  by_cases h1 : t < 0
  · rw [if_pos h1]; simp only [epoch_Pack.j0]; rfl
  · rw [if_neg h1]; simp only [epoch_Pack.j0]
    rw [if_pos (by simp; omega)]
theorem pack_range (k : Nat) (t g : Int) (h1 : 0 ≤ t) (h2 : t ≤ 1099511627776) (h : g < 0 ∨ 15 < g) : epoch_Pack.f (k + 1) t g = some (0, 3) := by
  unfold epoch_Pack.f
  rw [if_neg (by omega)]
  simp only [epoch_Pack.j0]
  rw [if_neg (by simp; omega)]
  by_cases h3 : g < 0
  · rw [if_pos h3]
  · rw [if_neg h3, if_pos (by omega)]
theorem alive2 (k : Nat) : plaitlaw02_alive.f (k + 1) = some true := by
  unfold plaitlaw02_alive.f
  rw [pack_in k 3 5 (by omega) (by omega) (by omega) (by omega)]
  simp only [Option.bind_some]
  rw [shift_in k (-5) (-1) (by omega) (by omega)]
  simp only [Option.bind_some]
  rfl
end Go.Proofs.Ytipmoncamnafbaa.Pure
