/- Plain words: answers of yes and no, told by statements. -/
import Derived.Test.YtkeolcgggondnaaVl2
set_option linter.unusedVariables false
set_option linter.unusedSimpArgs false
namespace Go.Proofs.Ytkeolcgggondnaa.VX
/-- Whether a statement holds. -/
noncomputable def tB (p : Prop) : Bool := @decide p (Classical.propDecidable p)
theorem tB_t {p : Prop} (h : p) : tB p = true := by unfold tB; exact @decide_eq_true p (Classical.propDecidable p) h
theorem tB_f {p : Prop} (h : ¬ p) : tB p = false := by unfold tB; exact @decide_eq_false p (Classical.propDecidable p) h
theorem tB_eq {p q : Prop} (h : p ↔ q) : tB p = tB q := by rw [propext h]
theorem tB_true {p : Prop} : tB p = true ↔ p := by
  by_cases hp : p
  · rw [tB_t hp]; simp [hp]
  · rw [tB_f hp]; simp [hp]
theorem tB_false {p : Prop} : tB p = false ↔ ¬ p := by
  by_cases hp : p
  · rw [tB_t hp]; simp [hp]
  · rw [tB_f hp]; simp [hp]
theorem tB_dec {p : Prop} {i : Decidable p} : @decide p i = tB p := by
  by_cases hp : p
  · rw [tB_t hp, decide_eq_true hp]
  · rw [tB_f hp, decide_eq_false hp]
theorem tB_beqI (a b : Int) : (a == b) = tB (a = b) := by
  by_cases h : a = b
  · rw [tB_t h]; simp [h]
  · rw [tB_f h]; simp [h]
theorem tB_bneI (a b : Int) : (a != b) = tB (¬ a = b) := by
  by_cases h : a = b
  · rw [tB_f (fun q => q h)]; simp [h]
  · rw [tB_t h]; simp [h]
theorem tB_eqI (a b : Int) : eqI a b = tB (a = b) := tB_beqI a b
theorem tB_beqB (a b : Bool) : (a == b) = tB (a = true ↔ b = true) := by
  cases a <;> cases b <;> first | (rw [tB_t (by simp)]; rfl) | (rw [tB_f (by simp)]; rfl)
theorem tB_bneB (a b : Bool) : (a != b) = tB (¬ (a = true ↔ b = true)) := by
  cases a <;> cases b <;> first | (rw [tB_t (by simp)]; rfl) | (rw [tB_f (by simp)]; rfl)
theorem tB_not (p : Prop) : Bool.not (tB p) = tB (¬ p) := by
  by_cases h : p
  · rw [tB_t h, tB_f (fun q => q h)]; rfl
  · rw [tB_f h, tB_t h]; rfl
theorem tB_and (p q : Prop) : (tB p && tB q) = tB (p ∧ q) := by
  by_cases h : p
  · rw [tB_t h, Bool.true_and]; exact tB_eq ⟨fun x => ⟨h, x⟩, fun x => x.2⟩
  · rw [tB_f h, Bool.false_and, tB_f (fun x => h x.1)]
theorem tB_or (p q : Prop) : (tB p || tB q) = tB (p ∨ q) := by
  by_cases h : p
  · rw [tB_t h, Bool.true_or, tB_t (.inl h)]
  · rw [tB_f h, Bool.false_or]; exact tB_eq ⟨.inr, fun x => x.resolve_left h⟩
theorem tB_inb (i : Int) (n : Nat) : inb i n = tB (0 ≤ i ∧ i < n) := by
  by_cases h : 0 ≤ i ∧ i < n
  · rw [tB_t h]; exact inbL.2 h
  · rw [tB_f h]
    cases hb : inb i n with
    | true => exact absurd (inbL.1 hb) h
    | false => rfl
theorem tB_cond (p q r : Prop) : (bif tB p then tB q else tB r) = tB (p ∧ q ∨ ¬ p ∧ r) := by
  by_cases h : p
  · rw [tB_t h, cond_true]; exact tB_eq ⟨fun x => .inl ⟨h, x⟩, fun x => x.elim (·.2) (fun y => absurd h y.1)⟩
  · rw [tB_f h, cond_false]; exact tB_eq ⟨fun x => .inr ⟨h, x⟩, fun x => x.elim (fun y => absurd y.1 h) (·.2)⟩
theorem tB_c2 (p q r : Prop) : (bif tB p then some (tB q) else some (tB r)) = some (tB (p ∧ q ∨ ¬ p ∧ r)) := by
  rw [← tB_cond]
  cases tB p <;> rfl
theorem tB_cT (p q : Prop) : (bif tB p then some true else some (tB q)) = some (tB (p ∨ q)) := by
  by_cases h : p
  · rw [tB_t h, tB_t (p := p ∨ q) (.inl h)]; rfl
  · rw [tB_f h, cond_false]; exact congrArg some (tB_eq ⟨.inr, fun x => x.resolve_left h⟩)
theorem tB_cF (p q : Prop) : (bif tB p then some false else some (tB q)) = some (tB (¬ p ∧ q)) := by
  by_cases h : p
  · rw [tB_t h, tB_f (p := ¬ p ∧ q) (fun x => x.1 h)]; rfl
  · rw [tB_f h, cond_false]; exact congrArg some (tB_eq ⟨fun x => ⟨h, x⟩, (·.2)⟩)
theorem tB_eT (p q : Prop) : (bif tB p then some (tB q) else some true) = some (tB (p → q)) := by
  by_cases h : p
  · rw [tB_t h, cond_true]; exact congrArg some (tB_eq ⟨fun x _ => x, fun x => x h⟩)
  · rw [tB_f h, tB_t (p := p → q) (fun x => absurd x h)]; rfl
theorem tB_eF (p q : Prop) : (bif tB p then some (tB q) else some false) = some (tB (p ∧ q)) := by
  by_cases h : p
  · rw [tB_t h, cond_true]; exact congrArg some (tB_eq ⟨fun x => ⟨h, x⟩, (·.2)⟩)
  · rw [tB_f h, tB_f (p := p ∧ q) (fun x => h x.1)]; rfl
theorem tB_tf (p : Prop) : (bif tB p then some true else some false) = some (tB p) := by
  by_cases h : p
  · rw [tB_t h]; rfl
  · rw [tB_f h]; rfl
theorem tB_ft (p : Prop) : (bif tB p then some false else some true) = some (tB (¬ p)) := by
  rw [← tB_not]
  cases tB p <;> rfl
/-- What may fail does not where its guard holds. -/
theorem tB_grd {α : Type} {p : Prop} (h : p) (x : Option α) : (bif tB p then x else none) = x := by rw [tB_t h]; rfl
theorem some_tB {p q : Prop} (h : p ↔ q) : some (tB p) = some (tB q) := congrArg some (tB_eq h)
theorem tB_iff {b : Bool} {p : Prop} (h : b = true ↔ p) : b = tB p := by
  by_cases hp : p
  · rw [tB_t hp]; exact h.2 hp
  · rw [tB_f hp]
    cases b with
    | true => exact absurd (h.1 rfl) hp
    | false => rfl
theorem iteP (p q r : Prop) [Decidable p] : (if p then q else r) ↔ (p ∧ q ∨ ¬ p ∧ r) := by
  by_cases h : p <;> simp [h]
theorem neg1 : (Int.negSucc 0) = (-1 : Int) := rfl
end Go.Proofs.Ytkeolcgggondnaa.VX
