/- Plain words: loops, numbers, rows. -/
import Derived.Test.YtegbkaaibgdheaaVxR
import Derived.Test.YtegbkaaibgdheaaVxO
set_option linter.unusedVariables false
set_option linter.unusedSimpArgs false
namespace Go.Proofs.Ytegbkaaibgdheaa.VX
theorem wrapI {n : Int} (h1 : -9223372036854775808 ≤ n) (h2 : n < 9223372036854775808) : IntKind.wrap .i64 n = n := by
  unfold IntKind.wrap
  show (if (true && decide (n % 18446744073709551616 ≥ 9223372036854775808)) = true then n % 18446744073709551616 - 18446744073709551616 else n % 18446744073709551616) = n
  split
  · rename_i h; simp at h; omega
  · rename_i h; simp at h; omega
theorem getAt_eq {α : Type} (z : α) : ∀ (l : List α) (n : Nat), getAt z l n = l.getD n z
  | [], n => by cases n <;> rfl
  | a :: l, 0 => rfl
  | a :: l, n + 1 => by
    show getAt z l n = _
    rw [getAt_eq z l n]; rfl
theorem getAtL {α : Type} (z : α) {l : List α} {n : Nat} (h : n < l.length) : getAt z l n = l[n] := by rw [getAt_eq]; simp [List.getD, h]
theorem inbL {i : Int} {n : Nat} : inb i n = true ↔ 0 ≤ i ∧ i < n := by unfold inb; simp
theorem inb_nat {i n : Nat} (h : i < n) : inb (i : Int) n = true := by rw [inbL]; omega
theorem toN_nat (i : Nat) : toN (i : Int) = i := rfl
theorem fits_iff {n : Nat} : fits n = true ↔ n ≤ 4294967296 := by unfold fits; simp
theorem mkOK_iff {n c : Int} : mkOK n c = true ↔ 0 ≤ n ∧ n ≤ c ∧ c.toNat ≤ 4294967296 := by
  unfold mkOK toN; simp [fits_iff]
theorem sub3L {l h : Int} {n : Nat} : sub3 l h n = true ↔ 0 ≤ l ∧ l ≤ h ∧ h ≤ n := by unfold sub3; simp
theorem loop_rule {X Y : Type} {f : X → Option (X ⊕ Y)} (I : X → Prop) (Q : Y → Prop) (m : X → Nat) (h : ∀ x, I x → (∃ x', f x = some (.inl x') ∧ I x' ∧ m x' < m x) ∨ (∃ y, f x = some (.inr y) ∧ Q y)) :
    ∀ x, I x → ∃ y, loop f x = some y ∧ Q y := by
  have : ∀ n x, m x ≤ n → I x → ∃ y, loop f x = some y ∧ Q y := by
    intro n
    induction n with
    | zero =>
      intro x hm hI
      rcases h x hI with ⟨x', _, _, h3⟩ | ⟨y, h1, h2⟩
      · omega
      · exact ⟨y, by rw [loop_eq, h1], h2⟩
    | succ n ih =>
      intro x hm hI
      rcases h x hI with ⟨x', h1, h2, h3⟩ | ⟨y, h1, h2⟩
      · obtain ⟨y, q1, q2⟩ := ih x' (by omega) h2
        exact ⟨y, by rw [loop_eq, h1]; exact q1, q2⟩
      · exact ⟨y, by rw [loop_eq, h1], h2⟩
  intro x hI
  exact this (m x) x (Nat.le_refl _) hI
/-- A loop that counts up to a bound, with a state beside. -/
theorem loop_count {X Y : Type} {f : X → Option (X ⊕ Y)} (n : Nat) (st : Nat → X) (y : Y) (h1 : ∀ k, k < n → f (st k) = some (.inl (st (k + 1)))) (h2 : f (st n) = some (.inr y)) : ∀ k, k ≤ n → loop f (st k) = some y := by
  have : ∀ d k, n - k = d → k ≤ n → loop f (st k) = some y := by
    intro d
    induction d with
    | zero =>
      intro k h hk
      obtain rfl : k = n := by omega
      rw [loop_eq, h2]
    | succ d ih =>
      intro k h hk
      rw [loop_eq, h1 k (by omega)]
      exact ih (k + 1) (by omega) (by omega)
  intro k hk
  exact this _ k rfl hk
theorem bif_t {α : Type} {b : Bool} {x y : α} (h : b = true) : (bif b then x else y) = x := by rw [h]; rfl
theorem bif_f {α : Type} {b : Bool} {x y : α} (h : b = false) : (bif b then x else y) = y := by rw [h]; rfl
theorem wfI {n : Int} (h : (Lit.int .i64 n).wf = true) : -9223372036854775808 ≤ n ∧ n < 9223372036854775808 := by
  have h : (decide (IntKind.min .i64 ≤ n) && decide (n ≤ IntKind.max .i64)) = true := h
  rw [Bool.and_eq_true, decide_eq_true_eq, decide_eq_true_eq] at h
  have h1 : IntKind.min .i64 = -9223372036854775808 := by decide
  have h2 : IntKind.max .i64 = 9223372036854775807 := by decide
  omega
theorem decE {p q : Prop} {i : Decidable p} {j : Decidable q} (h : p ↔ q) : some (@decide p i) = some (@decide q j) := by
  by_cases hp : p
  · rw [decide_eq_true hp, decide_eq_true (h.1 hp)]
  · rw [decide_eq_false hp, decide_eq_false (fun hq => hp (h.2 hq))]
theorem decF {p : Prop} {i : Decidable p} (h : ¬ p) : some false = some (@decide p i) := by rw [decide_eq_false h]
theorem decT {p : Prop} {i : Decidable p} (h : p) : some true = some (@decide p i) := by rw [decide_eq_true h]
end Go.Proofs.Ytegbkaaibgdheaa.VX
