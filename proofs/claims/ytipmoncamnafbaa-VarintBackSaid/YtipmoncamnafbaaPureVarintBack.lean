import Derived.Test.YtipmoncamnafbaaX15
import Derived.Test.YtipmoncamnafbaaPl7
set_option linter.unusedVariables false
set_option linter.unusedSimpArgs false
namespace Go.Proofs.Ytipmoncamnafbaa.Pure
open Go.RowKit Go.Proofs.Ytipmoncamnafbaa.X Go.Proofs.YtipmoncamnafbaaW.PrintWords Go.Proofs.YtipmoncamnafbaaW.PrintLast

theorem back_l (l : List Int) (hl : l.length ≤ 60) (d : Nat) : ∀ k i, 500 + d ≤ k → i + d = l.length →
    plaitlaw03_VarintBack.l0 k ((l.take i).map cut) l (l.length : Int) i = some true := by
  induction d with
  | zero =>
    intro k i hk hi
    obtain ⟨k, rfl⟩ : ∃ m, k = m + 1 := ⟨k - 1, by omega⟩
    rw [plaitlaw03_VarintBack.l0, if_neg (by omega), List.take_of_length_le (by omega)]
    have hc := cut_all l
    have hlen : (l.map cut).length ≤ 60 := by rw [List.length_map]; exact hl
    generalize l.map cut = m at *
    rw [allS m (by omega) k (by omega), if_pos hc]
    simp only [Option.bind_some]
    rw [every_flat m hc (by omega) k (by omega)]
    simp only [Option.bind_some, if_true, rows_self m k (by omega) (by omega)]
  | succ d ih =>
    intro k i hk hi
    obtain ⟨k, rfl⟩ : ∃ m, k = m + 1 := ⟨k - 1, by omega⟩
    rw [plaitlaw03_VarintBack.l0, if_pos (by omega), if_pos (by omega), if_pos (by omega), if_pos (by simp; omega), wrap64_id (a := (i : Int) + 1) (by omega) (by omega), cut31, rd_nat3]
    have := ih k (i + 1) (by omega) (by omega)
    rw [map_take_succ l i (by omega)] at this
    exact this
theorem back_j2 (l : List Int) (k : Nat) (hk : 600 ≤ k) : plaitlaw03_VarintBack.j2 k l = some true := by
  obtain ⟨k, rfl⟩ : ∃ m, k = m + 1 := ⟨k - 1, by omega⟩
  rw [plaitlaw03_VarintBack.j2, show (60 : Int) = ((60 : Nat) : Int) from rfl, mn_take, if_pos (by omega), if_pos (by omega), Int.toNat_natCast, take_min]
  have hl : (l.take 60).length ≤ 60 := by rw [List.length_take]; omega
  generalize l.take 60 = l at *
  have := back_l l hl l.length k 0 (by omega) (by omega)
  simpa using this
theorem back_j1 (l : List Int) (s : ByteArray) (hs : s.size ≤ 200) (k : Nat) (hk : 700 ≤ k) : plaitlaw03_VarintBack.j1 k l s = some true := by
  obtain ⟨k, rfl⟩ : ∃ m, k = m + 1 := ⟨k - 1, by omega⟩
  rw [plaitlaw03_VarintBack.j1, (every_in s (by omega) k (by omega)).1]
  simp only [Option.bind_some]
  by_cases h : (evN s.size (nb s) []).2 = 0
  · obtain ⟨ys, e1, e2, e3⟩ := evN_back s.size (nb s) [] (nb_range s) (by rw [nb_len]; omega) h
    have hlen := evN_len s.size (nb s) []
    rw [List.nil_append] at e1
    rw [if_pos h, e1]
    rw [e1] at hlen
    simp only [List.length_nil] at hlen
    rw [allS ys (by omega) k (by omega), if_pos e2, e3, str_nb]
    simp only [Option.bind_some, if_true]
    exact back_j2 l k (by omega)
  · rw [if_neg h]
    exact back_j2 l k (by omega)
theorem back_j0 (l : List Int) (s : ByteArray) (hs : s.size ≤ 200) (at_ : Int) (k : Nat) (hk : 750 ≤ k) : plaitlaw03_VarintBack.j0 k l s at_ false = some true := by
  obtain ⟨k, rfl⟩ : ∃ m, k = m + 1 := ⟨k - 1, by omega⟩
  rw [plaitlaw03_VarintBack.j0, if_neg (by simp)]
  by_cases hout : at_ < 0 ∨ (s.size : Int) < at_
  · rw [get_out s at_ hout k (by omega)]
    simp only [Option.bind_some]
    rw [if_neg (by decide)]
    exact back_j1 l s hs k (by omega)
  · obtain ⟨a, rfl⟩ : ∃ a : Nat, at_ = a := ⟨at_.toNat, by omega⟩
    rw [get_in s a (by omega) (by omega) k (by omega)]
    simp only [Option.bind_some]
    by_cases he : (getS s a).2.2 = 0
    · have hr : ∀ x ∈ (nb s).drop a, 0 ≤ x ∧ x < 256 := fun x hx => nb_range s x (List.mem_of_mem_drop hx)
      have hL : ((nb s).drop a).length = s.size - a := by rw [List.length_drop, nb_len]
      obtain ⟨g1, g2, g3, g4, g5, g6, g7⟩ := getL_ok _ hr he
      have e2 : (getS s a).2.1 = ((a + (getL ((nb s).drop a)).2.1 : Nat) : Int) := by
        have : (getL ((nb s).drop a)).2.2 = 0 := he
        simp [getS, this]
      have e3 : (getS s a).1 = (getL ((nb s).drop a)).1 := rfl
      rw [if_pos he, e3, e2, small_in _ g6 g7]
      simp only [Option.bind_some, if_true]
      rw [if_neg (by omega), if_neg (by omega), if_neg (by omega), if_pos (by omega), if_pos (by omega), if_pos (by omega), if_pos]
      · exact back_j1 l s hs k (by omega)
      · rw [toList_inj]
        apply nb_inj
        rw [nb_put, nb_extract, g5, putN_hv _ g4]
        congr 1
        omega
    · rw [if_neg he]
      exact back_j1 l s hs k (by omega)
theorem VarintBack : plaitlaw03_VarintBack.Pure := by
  intro n l text at_ _ _ _ _ _ _
  refine ⟨800, ?_⟩
  unfold plaitlaw03_VarintBack.f
  have hsz := few3_size text
  rw [few3]
  simp only [Option.bind_some]
  generalize text.extract 0 (min text.size 200) = s at *
  rw [cut31]
  generalize hm : n % 18446744073709551616 % 2147483648 = m
  obtain ⟨m, rfl⟩ : ∃ a : Nat, m = a := ⟨m.toNat, by omega⟩
  have hm1 : m ≤ 2147483647 := by omega
  rw [wrap64_id (a := (m : Int) - 1073741824) (by omega) (by omega), small_in m (by omega) (by omega), sign_in _ (by omega) (by omega)]
  simp only [Option.bind_some]
  rw [Int.toNat_natCast, get_put m hm1 800 (by omega)]
  simp only [Option.bind_some]
  have hf : 0 ≤ fold ((m : Int) - 1073741824) ∧ fold ((m : Int) - 1073741824) ≤ 2147483647 := by unfold fold; split <;> omega
  have hg := get_put (fold ((m : Int) - 1073741824)).toNat (by omega) 800 (by omega)
  have hfe : ((fold ((m : Int) - 1073741824)).toNat : Int) = fold ((m : Int) - 1073741824) := by omega
  rw [hfe] at hg
  rw [signed_of 800 _ 0 _ _ _ hg hf.1 hf.2, unfold_fold]
  have hp := putN_len m hm1
  simp only [Option.bind_some, if_true, strOfNums_size]
  rw [if_neg (by omega), alive3 800 (by omega)]
  simp only [Option.bind_some]
  exact back_j0 l s hsz at_ 800 (by omega)
end Go.Proofs.Ytipmoncamnafbaa.Pure
