import Derived.Test.YtipmoncamnafbaaX7
import Derived.Test.YtipmoncamnafbaaPl6
set_option linter.unusedVariables false
set_option linter.unusedSimpArgs false
namespace Go.Proofs.Ytipmoncamnafbaa.Pure
open Go.RowKit Go.Proofs.Ytipmoncamnafbaa.X Go.Proofs.YtipmoncamnafbaaW.PrintWords Go.Proofs.YtipmoncamnafbaaW.PrintLast Go.Proofs.YtipmoncamnafbaaW.PrintMore

def big : List Int → Int
  | [] => 0
  | x :: t => x * 256 ^ t.length + big t
theorem big_bound (l : List Int) (h : ∀ x ∈ l, 0 ≤ x ∧ x < 256) : 0 ≤ big l ∧ big l < 256 ^ l.length := by
  induction l with
  | nil => simp [big]
  | cons x t ih =>
    have h1 := h x (by simp)
    obtain ⟨i1, i2⟩ := ih (fun y hy => h y (by simp [hy]))
    rw [big, List.length_cons, Int.pow_succ]
    have h2 : x * 256 ^ t.length ≤ 255 * 256 ^ t.length := Int.mul_le_mul_of_nonneg_right (by omega) (by omega)
    have h3 : 0 ≤ x * 256 ^ t.length := Int.mul_nonneg h1.1 (by omega)
    omega
theorem less_big : ∀ (xs ys : List Int), xs.length = ys.length → (∀ x ∈ xs, 0 ≤ x ∧ x < 256) → (∀ x ∈ ys, 0 ≤ x ∧ x < 256) →
    Op.bytesLess (Go.Lib.bytesOf xs) (Go.Lib.bytesOf ys) = decide (big xs < big ys) := by
  intro xs
  induction xs with
  | nil =>
    intro ys h _ _
    have : ys = [] := List.eq_nil_of_length_eq_zero (by simpa using h.symm)
    subst this; rfl
  | cons x t ih =>
    intro ys h hx hy
    cases ys with
    | nil => simp at h
    | cons y u =>
      have h1 := hx x (by simp)
      have h2 := hy y (by simp)
      have hl : t.length = u.length := by simpa using h
      have i := ih u hl (fun z hz => hx z (by simp [hz])) (fun z hz => hy z (by simp [hz]))
      obtain ⟨b1, b2⟩ := big_bound t (fun z hz => hx z (by simp [hz]))
      obtain ⟨b3, b4⟩ := big_bound u (fun z hz => hy z (by simp [hz]))
      show (decide (UInt8.ofNat x.toNat < UInt8.ofNat y.toNat) || (UInt8.ofNat x.toNat == UInt8.ofNat y.toNat && Op.bytesLess (Go.Lib.bytesOf t) (Go.Lib.bytesOf u))) = _
      rw [i, big, big, ← hl]
      rw [← hl] at b4
      have e1 : (UInt8.ofNat x.toNat < UInt8.ofNat y.toNat) ↔ x < y := by
        rw [UInt8.lt_iff_toNat_lt]; simp; omega
      have e2 : (UInt8.ofNat x.toNat = UInt8.ofNat y.toNat) ↔ x = y := by
        rw [← UInt8.toNat_inj]; simp; omega
      generalize hP : (256 : Int) ^ t.length = P at *
      rw [Bool.eq_iff_iff]
      simp only [Bool.or_eq_true, Bool.and_eq_true, decide_eq_true_iff, beq_iff_eq, e1, e2]
      by_cases h3 : x < y
      · have : x * P + P ≤ y * P := by
          have : (x + 1) * P ≤ y * P := Int.mul_le_mul_of_nonneg_right (by omega) (by omega)
          rw [Int.add_mul] at this; omega
        constructor
        · intro _; omega
        · intro _; exact .inl h3
      · by_cases h4 : x = y
        · subst h4
          constructor
          · intro h; rcases h with h | h
            · omega
            · omega
          · intro h; exact .inr ⟨rfl, by omega⟩
        · have : y * P + P ≤ x * P := by
            have : (y + 1) * P ≤ x * P := Int.mul_le_mul_of_nonneg_right (by omega) (by omega)
            rw [Int.add_mul] at this; omega
          constructor
          · intro h; rcases h with h | h
            · omega
            · omega
          · intro h; omega
def bl (e : Int) : List Int := [byteAt e 7, byteAt e 6, byteAt e 5, byteAt e 4, byteAt e 3, byteAt e 2, byteAt e 1, byteAt e 0]
theorem bl_range (e : Int) : ∀ x ∈ bl e, 0 ≤ x ∧ x < 256 := by
  have key : ∀ k, 0 ≤ byteAt e k ∧ byteAt e k < 256 := fun k => by unfold byteAt; omega
  intro x hx
  simp only [bl, List.mem_cons, List.not_mem_nil, or_false] at hx
  rcases hx with h | h | h | h | h | h | h | h <;> rw [h] <;> exact key _
theorem big_bl (e : Int) (h0 : 0 ≤ e) (h1 : e ≤ 17592186044431) : big (bl e) = e := by
  simp only [bl, big, byteAt, List.length_cons, List.length_nil]
  simp only [Nat.reduceMul, Nat.reduceAdd, Int.reducePow]
  omega
theorem bytes_in (e : Int) (h0 : 0 ≤ e) (h1 : e ≤ 17592186044431) : epoch_Bytes.f e = some (strOfNums (bl e), 0) := by
  unfold epoch_Bytes.f
  rw [if_neg (by omega), if_neg (by omega)]; rfl
theorem EpochOrder : plaitlaw02_EpochOrder.Pure := by
  intro s t g h hs ht hg hh
  have hg := wf_i64 hg
  have hh := wf_i64 hh
  refine ⟨60, ?_⟩
  unfold plaitlaw02_EpochOrder.f
  have e40 : ∀ n : Int, wrap64 (Int.tmod (IntKind.u64.wrap n) 1099511627776) = (n % 18446744073709551616) % 1099511627776 := by
    intro n
    have e : IntKind.u64.wrap n = n % 18446744073709551616 := by simp [IntKind.wrap, IntKind.bits, IntKind.signed]
    rw [e, tmod_cases, if_pos (by omega), wrap64_id (by omega) (by omega)]
  have e16 : ∀ n : Int, -9223372036854775808 ≤ n → n ≤ 9223372036854775807 → 0 ≤ Int.tmod (wrap64 (Int.tmod n 16 + 16)) 16 ∧ Int.tmod (wrap64 (Int.tmod n 16 + 16)) 16 < 16 := by
    intro n h1 h2
    have hb : -16 < Int.tmod n 16 ∧ Int.tmod n 16 < 16 := by
      rw [tmod_cases]; split <;> omega
    rw [wrap64_id (by omega) (by omega), tmod_cases, if_pos (by omega)]; omega
  obtain ⟨g1, g2⟩ := e16 g hg.1 hg.2
  obtain ⟨h1, h2⟩ := e16 h hh.1 hh.2
  rw [e40, e40]
  generalize Int.tmod (wrap64 (Int.tmod g 16 + 16)) 16 = G at *
  generalize Int.tmod (wrap64 (Int.tmod h 16 + 16)) 16 = H at *
  have s1 : 0 ≤ (s % 18446744073709551616) % 1099511627776 ∧ (s % 18446744073709551616) % 1099511627776 < 1099511627776 := by omega
  have t1 : 0 ≤ (t % 18446744073709551616) % 1099511627776 ∧ (t % 18446744073709551616) % 1099511627776 < 1099511627776 := by omega
  generalize (s % 18446744073709551616) % 1099511627776 = S at *
  generalize (t % 18446744073709551616) % 1099511627776 = T at *
  rw [pack_in 59 S G s1.1 (by omega) g1 (by omega), pack_in 59 T H t1.1 (by omega) h1 (by omega)]
  simp only [Option.bind_some]
  rw [bytes_in (16 * S + G) (by omega) (by omega), bytes_in (16 * T + H) (by omega) (by omega), alive2 59]
  simp only [Option.bind_some, if_true, strOfNums_size]
  have hl : ∀ e, ((bl e).length : Int) = 8 := fun _ => rfl
  rw [if_pos (hl _), if_pos (hl _), plaitlaw02_EpochOrder.j0, if_neg (by simp)]
  rw [Go.Lib.strOfNums_toList, Go.Lib.strOfNums_toList, less_big (bl (16 * S + G)) (bl (16 * T + H)) rfl (bl_range _) (bl_range _), big_bl _ (by omega) (by omega), big_bl _ (by omega) (by omega)]
  rw [if_neg (by simp)]
  by_cases c1 : S = T
  · rw [if_pos c1]
    subst c1
    by_cases c2 : G = H
    · subst c2; simp
    · have : ¬ (16 * S + G = 16 * S + H) := by omega
      rw [if_neg (by rw [beq_eq_false_iff_ne.mpr this, beq_eq_false_iff_ne.mpr c2]; simp), if_neg c2]
  · have c3 : ¬ (16 * S + G = 16 * T + H) := by omega
    rw [if_neg c1, if_neg (by simp [c3])]
    by_cases c2 : G = H
    · subst c2
      rw [if_pos rfl]
      congr 1
      rw [beq_iff_eq, decide_eq_decide]
      omega
    · rw [if_neg c2]
end Go.Proofs.Ytipmoncamnafbaa.Pure
