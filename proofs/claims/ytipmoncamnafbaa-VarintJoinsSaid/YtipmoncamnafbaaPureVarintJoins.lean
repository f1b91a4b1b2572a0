import Derived.Test.YtipmoncamnafbaaX16
import Derived.Test.YtipmoncamnafbaaPl7
set_option linter.unusedVariables false
set_option linter.unusedSimpArgs false
namespace Go.Proofs.Ytipmoncamnafbaa.Pure
open Go.RowKit Go.Proofs.Ytipmoncamnafbaa.X Go.Proofs.YtipmoncamnafbaaW.PrintWords Go.Proofs.YtipmoncamnafbaaW.PrintLast

theorem joins_l1 (x y : List Int) (n : Int) (hx : x.all small = true) (hxl : x.length ≤ 30) (hyl : y.length ≤ 30) (d : Nat) : ∀ k i, 900 + d ≤ k → i + d = y.length →
    plaitlaw03_VarintJoins.l1 k n x ((y.take i).map cut) y (y.length : Int) i = some true := by
  induction d with
  | zero =>
    intro k i hk hi
    obtain ⟨k, rfl⟩ : ∃ m, k = m + 1 := ⟨k - 1, by omega⟩
    rw [plaitlaw03_VarintJoins.l1, if_neg (by omega), List.take_of_length_le (by omega)]
    have hc := cut_all y
    have hlen : (y.map cut).length ≤ 30 := by rw [List.length_map]; exact hyl
    generalize y.map cut = m at *
    simp only [Option.bind_some, List.length_nil, List.nil_append, List.length_append]
    have hb : (x ++ m).all small = true := by rw [List.all_append, hx, hc]; rfl
    have hbl : (x ++ m).length ≤ 60 := by rw [List.length_append]; omega
    have hxf := flat_len x hx
    have hmf := flat_len m hc
    rw [if_pos (by omega), if_pos (by omega), allS x (by omega) k (by omega), if_pos hx, allS m (by omega) k (by omega), if_pos hc, allS (x ++ m) (by omega) k (by omega), if_pos hb]
    simp only [Option.bind_some]
    rw [strOfNums_size, strOfNums_size, if_pos (by omega), ← str_append, ← flat_append, every_flat (x ++ m) hb (by omega) k (by omega), cut31]
    have hp : -1073741824 ≤ n % 18446744073709551616 % 2147483648 - 1073741824 ∧ n % 18446744073709551616 % 2147483648 - 1073741824 < 1073741824 := by omega
    rw [wrap64_id (a := n % 18446744073709551616 % 2147483648 - 1073741824) (by omega) (by omega)]
    generalize n % 18446744073709551616 % 2147483648 - 1073741824 = p at *
    have hf : 0 ≤ fold p ∧ fold p ≤ 2147483647 := by unfold fold; split <;> omega
    rw [sign_in p hp.1 hp.2]
    simp only [Option.bind_some]
    have hone : varint_Every.f k (strOfNums (putN (fold p).toNat)) = some ([fold p], 0) := by
      have := every_flat [fold p] (by simp [small]; omega) (by simp) k (by simp; omega)
      simpa [flat] using this
    rw [hone, alive3 k (by omega)]
    simp only [Option.bind_some, if_true]
    rw [rows_self (x ++ m) k (by omega) (by omega)]
    simp only [Option.bind_some, if_true, List.length_cons, List.length_nil]
    rw [if_pos (by omega), if_pos (by omega)]
    congr 1
    have e : rd [fold p] 0 = fold p := rfl
    rw [e, tmod_cases, if_pos hf.1, beq_iff_eq]
    unfold fold
    by_cases h : p < 0
    · rw [if_pos h]; simp [h] <;> omega
    · rw [if_neg h]; simp [h] <;> omega
  | succ d ih =>
    intro k i hk hi
    obtain ⟨k, rfl⟩ : ∃ m, k = m + 1 := ⟨k - 1, by omega⟩
    rw [plaitlaw03_VarintJoins.l1, if_pos (by omega), if_pos (by omega), if_pos (by omega), if_pos (by simp; omega), wrap64_id (a := (i : Int) + 1) (by omega) (by omega), cut31, rd_nat3]
    have := ih k (i + 1) (by omega) (by omega)
    rw [map_take_succ y i (by omega)] at this
    exact this
theorem joins_l0 (x y : List Int) (n : Int) (hxl : x.length ≤ 30) (d : Nat) : ∀ k i, 940 + d ≤ k → i + d = x.length →
    plaitlaw03_VarintJoins.l0 k y n ((x.take i).map cut) x (x.length : Int) i = some true := by
  induction d with
  | zero =>
    intro k i hk hi
    obtain ⟨k, rfl⟩ : ∃ m, k = m + 1 := ⟨k - 1, by omega⟩
    rw [plaitlaw03_VarintJoins.l0, if_neg (by omega), List.take_of_length_le (by omega)]
    rw [show (30 : Int) = ((30 : Nat) : Int) from rfl, mn_take, if_pos (by omega), if_pos (by omega), Int.toNat_natCast, take_min]
    have hl : (y.take 30).length ≤ 30 := by rw [List.length_take]; omega
    generalize y.take 30 = y at *
    have := joins_l1 (x.map cut) y n (cut_all x) (by rw [List.length_map]; exact hxl) hl y.length k 0 (by omega) (by omega)
    simpa using this
  | succ d ih =>
    intro k i hk hi
    obtain ⟨k, rfl⟩ : ∃ m, k = m + 1 := ⟨k - 1, by omega⟩
    rw [plaitlaw03_VarintJoins.l0, if_pos (by omega), if_pos (by omega), if_pos (by omega), if_pos (by simp; omega), wrap64_id (a := (i : Int) + 1) (by omega) (by omega), cut31, rd_nat3]
    have := ih k (i + 1) (by omega) (by omega)
    rw [map_take_succ x i (by omega)] at this
    exact this
theorem VarintJoins : plaitlaw03_VarintJoins.Pure := by
  intro x y n _ _ _ _ _ _ _
  refine ⟨1000, ?_⟩
  unfold plaitlaw03_VarintJoins.f
  rw [show (30 : Int) = ((30 : Nat) : Int) from rfl, mn_take, if_pos (by omega), if_pos (by omega), Int.toNat_natCast, take_min]
  have hl : (x.take 30).length ≤ 30 := by rw [List.length_take]; omega
  generalize x.take 30 = x at *
  have := joins_l0 x y n hl x.length 1000 0 (by omega) (by omega)
  simpa using this
end Go.Proofs.Ytipmoncamnafbaa.Pure
