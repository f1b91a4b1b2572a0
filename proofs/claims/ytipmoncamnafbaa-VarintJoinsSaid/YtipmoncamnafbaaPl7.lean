/- Plain lemmas on package varint: what is put is got. -/
import Derived.Test.YtipmoncamnafbaaPl6
set_option linter.unusedVariables false
set_option linter.unusedSimpArgs false
namespace Go.Proofs.Ytipmoncamnafbaa.Pure
open Go.RowKit Go.Proofs.Ytipmoncamnafbaa.X Go.Proofs.YtipmoncamnafbaaW.PrintWords Go.Proofs.YtipmoncamnafbaaW.PrintLast

theorem mn_take (l : List Int) (c : Nat) : mn (l.length : Int) c = ((min l.length c : Nat) : Int) := by unfold mn; split <;> omega
theorem take_min (l : List Int) (c : Nat) : l.take (min l.length c) = l.take c := by
  by_cases h : l.length ≤ c
  · rw [Nat.min_eq_left h, List.take_of_length_le (Nat.le_refl _), List.take_of_length_le h]
  · rw [Nat.min_eq_right (by omega)]
theorem getS_put (n : Nat) (h : n ≤ 2147483647) : getS (strOfNums (putN n)) 0 = ((n : Int), ((putN n).length : Int), (0 : Int)) := by
  have h1 := getL_can (putN n) [] (can_putN n) (putN_len n h) (by rw [hv_putN]; omega)
  rw [List.append_nil, hv_putN] at h1
  unfold getS
  rw [nb_put, List.drop_zero, h1]
  simp
theorem get_put (n : Nat) (h : n ≤ 2147483647) (k : Nat) (hk : 9 ≤ k) : varint_Get.f k (strOfNums (putN n)) 0 = some ((n : Int), ((putN n).length : Int), 0) := by
  have hp := putN_len n h
  have := get_in (strOfNums (putN n)) 0 (by omega) (by rw [strOfNums_size]; omega) k hk
  rw [getS_put n h] at this
  exact this
theorem evN_len (f : Nat) : ∀ (l out : List Int), (evN f l out).1.length ≤ out.length + f := by
  induction f with
  | zero => intro l out; simp [evN]
  | succ f ih =>
    intro l out
    rw [evN]
    split
    · simp
    · split
      · have := ih (l.drop (getL l).2.1) (out ++ [(getL l).1])
        simp at this; omega
      · simp
theorem nb_flat (l : List Int) : nb (strOfNums (flat l)) = flat l := nb_str _ (flat_range l)
theorem every_flat (l : List Int) (h : l.all small = true) (hl : l.length ≤ 1000) (k : Nat) (hk : 5 * l.length + 41 < k) : varint_Every.f k (strOfNums (flat l)) = some (l, 0) := by
  have hf := flat_len l h
  have := (every_in (strOfNums (flat l)) (by rw [strOfNums_size]; omega) k (by rw [strOfNums_size]; omega)).1
  rw [this, strOfNums_size, nb_flat, evN_flat l h _ _ (Nat.le_refl _)]
  rfl
theorem cut_small (n : Int) : small ((n % 18446744073709551616) % 2147483648) = true := small_iff.2 (by omega)
def cut (n : Int) : Int := (n % 18446744073709551616) % 2147483648
theorem cut_all (l : List Int) : (l.map cut).all small = true := by
  rw [List.all_eq_true]
  intro x hx
  obtain ⟨y, _, rfl⟩ := List.mem_map.1 hx
  exact cut_small y
theorem map_take_succ (l : List Int) (i : Nat) (h : i < l.length) : (l.take (i + 1)).map cut = (l.take i).map cut ++ [cut (l.getD i 0)] := by
  rw [take_snoc l i h, List.map_append]; rfl
end Go.Proofs.Ytipmoncamnafbaa.Pure
