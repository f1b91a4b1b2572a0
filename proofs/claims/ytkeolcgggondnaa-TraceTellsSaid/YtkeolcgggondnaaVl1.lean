/- Plain words: loops, numbers, rows. -/
import Derived.Test.YtkeolcgggondnaaVxR
import Derived.Test.YtkeolcgggondnaaVxO
set_option linter.unusedVariables false
set_option linter.unusedSimpArgs false
namespace Go.Proofs.Ytkeolcgggondnaa.VX
theorem wrapI {n : Int} (h1 : -9223372036854775808 ≤ n) (h2 : n < 9223372036854775808) : IntKind.wrap .i64 n = n := by
  unfold IntKind.wrap
  show (if (true && decide (n % 18446744073709551616 ≥ 9223372036854775808)) = true then n % 18446744073709551616 - 18446744073709551616 else n % 18446744073709551616) = n
  split
  · rename_i h; simp at h; omega
  · rename_i h; simp at h; omega
theorem getAt_eq {α : Type} (z : α) : ∀ (l : List α) (n : Nat), getAt z l n = l.getD n z
  | [], n => by cases n <;> rfl
  | a :: l, 0 => rfl
  | a :: l, n + 1 => by
    show getAt z l n = _
    rw [getAt_eq z l n]; rfl
theorem getAtL {α : Type} (z : α) {l : List α} {n : Nat} (h : n < l.length) : getAt z l n = l[n] := by rw [getAt_eq]; simp [List.getD, h]
theorem inbL {i : Int} {n : Nat} : inb i n = true ↔ 0 ≤ i ∧ i < n := by unfold inb; simp
theorem inb_nat {i n : Nat} (h : i < n) : inb (i : Int) n = true := by rw [inbL]; omega
theorem toN_nat (i : Nat) : toN (i : Int) = i := rfl
theorem fits_iff {n : Nat} : fits n = true ↔ n ≤ 4294967296 := by unfold fits; simp
theorem mkOK_iff {n c : Int} : mkOK n c = true ↔ 0 ≤ n ∧ n ≤ c ∧ c.toNat ≤ 4294967296 := by
  unfold mkOK toN; simp [fits_iff]
theorem sub3L {l h : Int} {n : Nat} : sub3 l h n = true ↔ 0 ≤ l ∧ l ≤ h ∧ h ≤ n := by unfold sub3; simp
theorem loop_rule {X Y : Type} {f : X → Option (X ⊕ Y)} (I : X → Prop) (Q : Y → Prop) (m : X → Nat) (h : ∀ x, I x → (∃ x', f x = some (.inl x') ∧ I x' ∧ m x' < m x) ∨ (∃ y, f x = some (.inr y) ∧ Q y)) :
    ∀ x, I x → ∃ y, loop f x = some y ∧ Q y := by
  have : ∀ n x, m x ≤ n → I x → ∃ y, loop f x = some y ∧ Q y := by
    intro n
    induction n with
    | zero =>
      intro x hm hI
      rcases h x hI with ⟨x', _, _, h3⟩ | ⟨y, h1, h2⟩
      · omega
      · exact ⟨y, by rw [loop_eq, h1], h2⟩
    | succ n ih =>
      intro x hm hI
      rcases h x hI with ⟨x', h1, h2, h3⟩ | ⟨y, h1, h2⟩
      · obtain ⟨y, q1, q2⟩ := ih x' (by omega) h2
        exact ⟨y, by rw [loop_eq, h1]; exact q1, q2⟩
      · exact ⟨y, by rw [loop_eq, h1], h2⟩
  intro x hI
  exact this (m x) x (Nat.le_refl _) hI
/-- A loop that counts up to a bound, with a state beside. -/
theorem loop_count {X Y : Type} {f : X → Option (X ⊕ Y)} (n : Nat) (st : Nat → X) (y : Y) (h1 : ∀ k, k < n → f (st k) = some (.inl (st (k + 1)))) (h2 : f (st n) = some (.inr y)) : ∀ k, k ≤ n → loop f (st k) = some y := by
  have : ∀ d k, n - k = d → k ≤ n → loop f (st k) = some y := by
    intro d
    induction d with
    | zero =>
      intro k h hk
      obtain rfl : k = n := by omega
      rw [loop_eq, h2]
    | succ d ih =>
      intro k h hk
      rw [loop_eq, h1 k (by omega)]
      exact ih (k + 1) (by omega) (by omega)
  intro k hk
  exact this _ k rfl hk
/-- A loop that looks for the first one. -/
theorem loop_find {X Y α : Type} {f : X → Option (X ⊕ Y)} (l : List α) (p : α → Bool) (st : Nat → X) (hit : Nat → Y) (miss : Y)
    (h1 : ∀ k (h : k < l.length), f (st k) = if p l[k] then some (.inr (hit k)) else some (.inl (st (k + 1)))) (h2 : f (st l.length) = some (.inr miss)) :
    loop f (st 0) = some (match l.findIdx? p with | some i => hit i | none => miss) := by
  have : ∀ d k, l.length - k = d → k ≤ l.length → loop f (st k) = some (match (l.drop k).findIdx? p with | some i => hit (k + i) | none => miss) := by
    intro d
    induction d with
    | zero =>
      intro k h hk
      obtain rfl : k = l.length := by omega
      rw [loop_eq, h2, List.drop_length]; rfl
    | succ d ih =>
      intro k h hk
      have hlt : k < l.length := by omega
      rw [loop_eq, h1 k hlt, List.drop_eq_getElem_cons hlt, List.findIdx?_cons]
      by_cases hp : p l[k] = true
      · rw [if_pos hp, if_pos hp]; rfl
      · rw [if_neg hp, if_neg hp]
        show loop f (st (k + 1)) = _
        rw [ih (k + 1) (by omega) (by omega)]
        cases (l.drop (k + 1)).findIdx? p with
        | none => rfl
        | some i => simp only [Option.map_some]; congr 2; omega
  have h := this _ 0 rfl (Nat.zero_le _)
  rw [h, List.drop_zero]
  cases l.findIdx? p with
  | none => rfl
  | some i => simp
theorem mset_mput {κ α : Type} {eq : κ → κ → Bool} {x : κ} (u v : α) : ∀ (l : List (κ × α)), mset (mput eq x u l) (mpos eq x l) v = mput eq x v l
  | [] => rfl
  | p :: l => by
    show mset (bif eq x p.1 then (x, u) :: l else p :: mput eq x u l) (bif eq x p.1 then 0 else mpos eq x l + 1) v = (bif eq x p.1 then (x, v) :: l else p :: mput eq x v l)
    cases h : eq x p.1 with
    | true => rfl
    | false =>
      simp only [cond_false]
      show p :: mset (mput eq x u l) (mpos eq x l) v = _
      rw [mset_mput u v l]
theorem mpos_lt {κ α : Type} {eq : κ → κ → Bool} {x : κ} (u : α) : ∀ (l : List (κ × α)), mpos eq x l < (mput eq x u l).length
  | [] => Nat.zero_lt_one
  | p :: l => by
    show (bif eq x p.1 then 0 else mpos eq x l + 1) < (bif eq x p.1 then (x, u) :: l else p :: mput eq x u l).length
    cases h : eq x p.1 with
    | true => simp
    | false =>
      have := mpos_lt (eq := eq) (x := x) u l
      simp only [cond_false, List.length_cons]; omega
theorem mputLen {κ α : Type} {eq : κ → κ → Bool} {x : κ} (u : α) : ∀ (l : List (κ × α)), (mput eq x u l).length = if mhas eq x l = true then l.length else l.length + 1
  | [] => rfl
  | p :: l => by
    show (bif eq x p.1 then (x, u) :: l else p :: mput eq x u l).length = if (bif eq x p.1 then true else mhas eq x l) = true then l.length + 1 else l.length + 1 + 1
    cases h : eq x p.1 with
    | true => simp
    | false =>
      simp only [cond_false, List.length_cons, mputLen u l]
      split <;> rfl
theorem mput_look {κ α : Type} [DecidableEq κ] {eq : κ → κ → Bool} (he : ∀ a b, eq a b = true ↔ a = b) {z : α} (x : κ) (u : α) (y : κ) : ∀ (l : List (κ × α)), mlook eq z y (mput eq x u l) = if y = x then u else mlook eq z y l
  | [] => by
    show (bif eq y x then u else z) = _
    by_cases h : y = x
    · rw [(he y x).2 h, if_pos h]; rfl
    · rw [if_neg h]
      cases hb : eq y x with
      | true => exact absurd ((he y x).1 hb) h
      | false => rfl
  | p :: l => by
    show mlook eq z y (bif eq x p.1 then (x, u) :: l else p :: mput eq x u l) = if y = x then u else (bif eq y p.1 then p.2 else mlook eq z y l)
    cases h : eq x p.1 with
    | true =>
      have hx := (he _ _).1 h
      show (bif eq y x then u else mlook eq z y l) = _
      by_cases h2 : y = x
      · rw [(he y x).2 h2, if_pos h2]; rfl
      · rw [if_neg h2, ← hx]
        cases hb : eq y x with
        | true => exact absurd ((he y x).1 hb) h2
        | false => rfl
    | false =>
      show (bif eq y p.1 then p.2 else mlook eq z y (mput eq x u l)) = _
      rw [mput_look he x u y l]
      cases hb : eq y p.1 with
      | false => rfl
      | true =>
        have hy := (he _ _).1 hb
        have hne : ¬ y = x := fun e => by rw [e] at hb; rw [hb] at h; cases h
        simp [hne]
theorem mput_has {κ α : Type} {eq : κ → κ → Bool} (he : ∀ a b, eq a b = true ↔ a = b) (x : κ) (u : α) (y : κ) : ∀ (l : List (κ × α)), mhas eq y (mput eq x u l) = (eq y x || mhas eq y l)
  | [] => by
    show (bif eq y x then true else false) = (eq y x || false)
    cases eq y x <;> rfl
  | p :: l => by
    show mhas eq y (bif eq x p.1 then (x, u) :: l else p :: mput eq x u l) = (eq y x || (bif eq y p.1 then true else mhas eq y l))
    cases h : eq x p.1 with
    | true =>
      have hx := (he _ _).1 h
      show (bif eq y x then true else mhas eq y l) = _
      rw [← hx]
      cases eq y x <;> rfl
    | false =>
      show (bif eq y p.1 then true else mhas eq y (mput eq x u l)) = _
      rw [mput_has he x u y l]
      cases eq y p.1 <;> cases eq y x <;> rfl
theorem bif_t {α : Type} {b : Bool} {x y : α} (h : b = true) : (bif b then x else y) = x := by rw [h]; rfl
theorem bif_f {α : Type} {b : Bool} {x y : α} (h : b = false) : (bif b then x else y) = y := by rw [h]; rfl
theorem wfI {n : Int} (h : (Lit.int .i64 n).wf = true) : -9223372036854775808 ≤ n ∧ n < 9223372036854775808 := by
  have h : (decide (IntKind.min .i64 ≤ n) && decide (n ≤ IntKind.max .i64)) = true := h
  rw [Bool.and_eq_true, decide_eq_true_eq, decide_eq_true_eq] at h
  have h1 : IntKind.min .i64 = -9223372036854775808 := by decide
  have h2 : IntKind.max .i64 = 9223372036854775807 := by decide
  omega
theorem decE {p q : Prop} {i : Decidable p} {j : Decidable q} (h : p ↔ q) : some (@decide p i) = some (@decide q j) := by
  by_cases hp : p
  · rw [decide_eq_true hp, decide_eq_true (h.1 hp)]
  · rw [decide_eq_false hp, decide_eq_false (fun hq => hp (h.2 hq))]
theorem decF {p : Prop} {i : Decidable p} (h : ¬ p) : some false = some (@decide p i) := by rw [decide_eq_false h]
theorem decT {p : Prop} {i : Decidable p} (h : p) : some true = some (@decide p i) := by rw [decide_eq_true h]
end Go.Proofs.Ytkeolcgggondnaa.VX
