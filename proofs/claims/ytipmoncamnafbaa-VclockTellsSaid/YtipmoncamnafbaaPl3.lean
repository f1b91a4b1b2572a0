/- Plain lemmas on clocks: trimming, joining, ticking. -/
import Derived.Test.YtipmoncamnafbaaPl2
set_option linter.unusedVariables false
set_option linter.unusedSimpArgs false
namespace Go.Proofs.Ytipmoncamnafbaa.Pure
open Go.RowKit Go.Proofs.Ytipmoncamnafbaa.X Go.Proofs.YtipmoncamnafbaaW.PrintWords Go.Proofs.YtipmoncamnafbaaW.PrintLast

theorem snoc_ind {α : Type} {P : List α → Prop} (h0 : P []) (h1 : ∀ l x, P l → P (l ++ [x])) (l : List α) : P l := by
  rw [← List.reverse_reverse l]
  induction l.reverse with
  | nil => exact h0
  | cons a t ih => rw [List.reverse_cons]; exact h1 _ _ ih
theorem vtrim_snoc (l : List Int) (x : Int) : vtrim (l ++ [x]) = if x = 0 then vtrim l else l ++ [x] := by
  by_cases h : x = 0
  · subst h; rw [if_pos rfl, vtrim_snoc_zero]
  · rw [if_neg h, vtrim_snoc_ne l x h]
theorem vtrim_nil : vtrim [] = [] := rfl
theorem vtrim_getD (l : List Int) (i : Nat) : (vtrim l).getD i 0 = l.getD i 0 := by
  induction l using snoc_ind with
  | h0 => rfl
  | h1 l x ih =>
    rw [vtrim_snoc]
    by_cases h : x = 0
    · subst h
      rw [if_pos rfl, ih]
      simp only [List.getD_eq_getElem?_getD, List.getElem?_append]
      by_cases hi : i < l.length
      · rw [if_pos hi]
      · rw [if_neg hi, List.getElem?_eq_none (by omega)]
        by_cases h2 : i - l.length = 0
        · rw [h2]; rfl
        · rw [List.getElem?_eq_none (by simp; omega)]
    · rw [if_neg h]
theorem vtrim_len (l : List Int) : (vtrim l).length ≤ l.length := by
  induction l using snoc_ind with
  | h0 => simp [vtrim_nil]
  | h1 l x ih =>
    rw [vtrim_snoc]
    split
    · simp; omega
    · exact Nat.le_refl _
theorem vtrim_mem (l : List Int) : ∀ x ∈ vtrim l, x ∈ l := by
  induction l using snoc_ind with
  | h0 => simp [vtrim_nil]
  | h1 l x ih =>
    rw [vtrim_snoc]
    split
    · intro y hy; exact List.mem_append_left _ (ih y hy)
    · intro y hy; exact hy
theorem vtrim_last (l : List Int) : vtrim l = [] ∨ ∃ m x, vtrim l = m ++ [x] ∧ x ≠ 0 := by
  induction l using snoc_ind with
  | h0 => exact .inl rfl
  | h1 l x ih =>
    rw [vtrim_snoc]
    by_cases h : x = 0
    · rw [if_pos h]; exact ih
    · rw [if_neg h]; exact .inr ⟨l, x, rfl, h⟩
theorem vtrim_idem (l : List Int) : vtrim (vtrim l) = vtrim l := by
  rcases vtrim_last l with h | ⟨m, x, h, hx⟩
  · rw [h]; rfl
  · rw [h, vtrim_snoc_ne _ _ hx]
/-- two lists with the same entries are the same, trimmed -/
theorem vtrim_ext (a b : List Int) (h : ∀ i, a.getD i 0 = b.getD i 0) : vtrim a = vtrim b := by
  have key : ∀ a b : List Int, (∀ i, (vtrim a).getD i 0 = (vtrim b).getD i 0) → (vtrim a).length ≤ (vtrim b).length := by
    intro a b h
    rcases vtrim_last a with e | ⟨m, x, e, hx⟩
    · rw [e]; simp
    · rw [e]
      have hm := h m.length
      rw [e] at hm
      simp only [List.getD_eq_getElem?_getD, List.getElem?_append_right (Nat.le_refl _), Nat.sub_self] at hm
      by_cases hl : m.length < (vtrim b).length
      · simp; omega
      · rw [List.getElem?_eq_none (by omega : (vtrim b).length ≤ m.length)] at hm
        simp at hm; exact absurd hm hx
  have h' : ∀ i, (vtrim a).getD i 0 = (vtrim b).getD i 0 := fun i => by rw [vtrim_getD, vtrim_getD, h]
  have hl : (vtrim a).length = (vtrim b).length := Nat.le_antisymm (key a b h') (key b a (fun i => (h' i).symm))
  apply List.ext_getElem hl
  intro i h1 h2
  have := h' i
  simpa [h1, h2] using this
theorem all_getD {l : List Int} (h : l.all tickOk = true) (i : Nat) : tickOk (l.getD i 0) = true := by
  by_cases hi : i < l.length
  · have := List.all_eq_true.1 h l[i] (List.getElem_mem hi)
    simpa [hi] using this
  · simp only [List.getD_eq_getElem?_getD]
    rw [List.getElem?_eq_none (by omega)]; rfl
theorem tick_iff {x : Int} : tickOk x = true ↔ 0 ≤ x ∧ x ≤ 1099511627776 := by simp [tickOk]
theorem vok_iff {l : List Int} : vok l = true ↔ l.length ≤ 16 ∧ l.all tickOk = true := by simp [vok]
theorem vok_getD {l : List Int} (h : vok l = true) (i : Nat) : 0 ≤ l.getD i 0 ∧ l.getD i 0 ≤ 1099511627776 := tick_iff.1 (all_getD (vok_iff.1 h).2 i)
theorem vok_vtrim {l : List Int} (hl : l.length ≤ 16) (h : l.all tickOk = true) : vok (vtrim l) = true := by
  rw [vok_iff]
  refine ⟨Nat.le_trans (vtrim_len l) hl, ?_⟩
  rw [List.all_eq_true]
  intro x hx
  exact List.all_eq_true.1 h x (vtrim_mem l x hx)
theorem whole_all {l : List Int} (h : vok l = true) : (whole l).all tickOk = true := by
  rw [whole, List.all_append, (vok_iff.1 h).2, List.all_replicate]
  simp [tickOk]
theorem set_all {l : List Int} (h : l.all tickOk = true) (k : Nat) (x : Int) (hx : tickOk x = true) : (l.set k x).all tickOk = true := by
  rw [List.all_eq_true]
  intro y hy
  rcases List.mem_or_eq_of_mem_set hy with h1 | h1
  · exact List.all_eq_true.1 h y h1
  · rw [h1]; exact hx
theorem set_getD (l : List Int) (k i : Nat) (x : Int) (hk : k < l.length) : (l.set k x).getD i 0 = if k = i then x else l.getD i 0 := by
  simp only [List.getD_eq_getElem?_getD, List.getElem?_set]
  by_cases h : k = i
  · subst h; rw [if_pos rfl, if_pos rfl, if_pos hk]; rfl
  · rw [if_neg h, if_neg h]
end Go.Proofs.Ytipmoncamnafbaa.Pure
