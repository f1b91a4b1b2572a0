/- Plain words, more: numbers that are cut down, rows that are cut, rows without repeats. -/
import Derived.Test.YtkeolcgggondnaaVl1
set_option linter.unusedVariables false
set_option linter.unusedSimpArgs false
namespace Go.Proofs.Ytkeolcgggondnaa.VX
theorem find_filter {α : Type} (z : α) (p : α → Bool) : ∀ (l : List α), match l.findIdx? p with | none => l.filter p = [] | some i => ∃ t, l.filter p = l.getD i z :: t
  | [] => rfl
  | a :: l => by
    rw [List.findIdx?_cons]
    cases h : p a with
    | true => exact ⟨l.filter p, by simp [h]⟩
    | false =>
      have := find_filter z p l
      cases hf : l.findIdx? p with
      | none => rw [hf] at this; simpa [h] using this
      | some i => rw [hf] at this; simpa [h] using this
theorem nodup_len {α : Type} [BEq α] [LawfulBEq α] : ∀ (l L : List α), l.Nodup → (∀ x ∈ l, x ∈ L) → l.length ≤ L.length
  | [], L, _, _ => Nat.zero_le _
  | a :: l, L, h, hs => by
    obtain ⟨h1, h2⟩ := List.nodup_cons.1 h
    have ha := hs a (List.mem_cons_self ..)
    have := nodup_len l (L.erase a) h2 (fun x hx => (List.mem_erase_of_ne (show x ≠ a from fun e => h1 (by rw [← e]; exact hx))).2 (hs x (List.mem_cons_of_mem _ hx)))
    rw [List.length_erase_of_mem ha] at this
    have := List.length_pos_of_mem ha
    simp only [List.length_cons]; omega
theorem tm5 (v m : Int) (h1 : 0 < m) (h2 : m < 1000000) : 0 ≤ Int.tmod (IntKind.wrap .i64 (Int.tmod v m + m)) m ∧ Int.tmod (IntKind.wrap .i64 (Int.tmod v m + m)) m < m := by
  have a := Int.tmod_lt_of_pos v h1
  have b := Int.lt_tmod_of_pos v h1
  rw [wrapI (by omega) (by omega)]
  exact ⟨Int.tmod_nonneg _ (by omega), Int.tmod_lt_of_pos _ h1⟩
theorem cut_min {α : Type} (s : List α) (n : Nat) (c : Int) (hc : c = n) : cut s (toN 0) (toN (min ((s.length : Nat) : Int) c) - toN 0) = s.take n := by
  subst hc
  unfold cut toN
  simp only [List.drop_zero, Int.toNat_zero, Nat.sub_zero]
  rcases Nat.le_total s.length n with h | h
  · rw [List.take_of_length_le (by omega), List.take_of_length_le h]
  · congr 1; omega
theorem cut_to {α : Type} (s : List α) (n : Nat) : cut s (toN 0) (toN (n : Int) - toN 0) = s.take n := rfl
theorem cut_from {α : Type} (s : List α) (n : Nat) : cut s (toN (n : Int)) (toN ((s.length : Nat) : Int) - toN (n : Int)) = s.drop n := by
  unfold cut
  rw [toN_nat, toN_nat, List.take_of_length_le (by simp)]
theorem cut_one {α : Type} (a : α) (s : List α) : cut (a :: s) (toN 1) (toN (((a :: s).length : Nat) : Int) - toN 1) = s := cut_from (a :: s) 1
/-- A loop over numbers from 0 on, that may end early. -/
theorem loop_first {X Y : Type} {f : X → Option (X ⊕ Y)} (n : Nat) (st : Nat → X) (q : Nat → Option Y) (z : Y)
    (h1 : ∀ k, k < n → f (st k) = match q k with | none => some (.inl (st (k + 1))) | some y => some (.inr y)) (h2 : f (st n) = some (.inr z)) :
    loop f (st 0) = some (((List.range n).findSome? q).getD z) := by
  have : ∀ d k, n - k = d → k ≤ n → loop f (st k) = some (((List.range' k (n - k)).findSome? q).getD z) := by
    intro d
    induction d with
    | zero =>
      intro k h hk
      obtain rfl : k = n := by omega
      rw [loop_eq, h2, Nat.sub_self]; rfl
    | succ d ih =>
      intro k h hk
      rw [loop_eq, h1 k (by omega), show n - k = (n - (k + 1)) + 1 by omega, List.range'_succ, List.findSome?_cons]
      cases hq : q k with
      | none => exact ih (k + 1) (by omega) (by omega)
      | some y => rfl
  rw [List.range_eq_range', this n 0 (by omega) (Nat.zero_le _), Nat.sub_zero]
end Go.Proofs.Ytkeolcgggondnaa.VX
