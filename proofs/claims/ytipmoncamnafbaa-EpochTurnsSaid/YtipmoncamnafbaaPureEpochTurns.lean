/- The plain side of EpochTurns: any number as one of any kind, and shifted by any number, is as the reference says, or refused; for all whole numbers of 64 bits. -/
import Derived.Test.YtipmoncamnafbaaX2
import Derived.Test.YtipmoncamnafbaaPl1
set_option linter.unusedVariables false
set_option linter.unusedSimpArgs false
namespace Go.Proofs.Ytipmoncamnafbaa.Pure
open Go.RowKit Go.Proofs.Ytipmoncamnafbaa.X Go.Proofs.YtipmoncamnafbaaW.PrintWords Go.Proofs.YtipmoncamnafbaaW.PrintLast

theorem refmod (v N : Int) (h1 : -9223372036854775808 ≤ v) (h2 : v ≤ 9223372036854775807) (hN : N = 256 ∨ N = 65536 ∨ N = 4294967296) :
    Int.tmod (wrap64 (Int.tmod v N + N)) N = v % N := by
  rcases hN with rfl | rfl | rfl <;>
  · rw [tmod_cases v]
    by_cases h : 0 ≤ v
    · rw [if_pos h, wrap64_id (by omega) (by omega), tmod_cases, if_pos (by omega)]; omega
    · rw [if_neg h, wrap64_id (by omega) (by omega), tmod_cases, if_pos (by omega)]; omega
theorem refNarrow (v kind : Int) (h1 : -9223372036854775808 ≤ v) (h2 : v ≤ 9223372036854775807) (h3 : 0 ≤ kind) (h4 : kind ≤ 5) :
    plaitref02_Narrow.f v kind = some (nar kind v) := by
  have hk : kind = 0 ∨ kind = 1 ∨ kind = 2 ∨ kind = 3 ∨ kind = 4 ∨ kind = 5 := by omega
  have e1 : wrap64 (Int.tdiv 256 2) = 128 := by unfold wrap64; rw [show Int.tdiv 256 2 = 128 from rfl]; omega
  have e2 : wrap64 (Int.tdiv 65536 2) = 32768 := by unfold wrap64; rw [show Int.tdiv 65536 2 = 32768 from rfl]; omega
  have e3 : wrap64 (Int.tdiv 4294967296 2) = 2147483648 := by unfold wrap64; rw [show Int.tdiv 4294967296 2 = 2147483648 from rfl]; omega
  have big : ∀ (N M : Int), N = 2 * M → (N = 256 ∨ N = 65536 ∨ N = 4294967296) → (if (Int.tmod (wrap64 ((Int.tmod v N) + N)) N) ≥ M then (some (wrap64 ((Int.tmod (wrap64 ((Int.tmod v N) + N)) N) - N))) else (some (Int.tmod (wrap64 ((Int.tmod v N) + N)) N))) = some ((v + M) % N - M) := by
    intro N M hNM hN
    rw [refmod v N h1 h2 hN]
    rcases hN with rfl | rfl | rfl
    · obtain rfl : M = 128 := by omega
      by_cases h : v % 256 ≥ 128
      · rw [if_pos h, wrap64_id (by omega) (by omega)]; congr 1; omega
      · rw [if_neg h]; congr 1; omega
    · obtain rfl : M = 32768 := by omega
      by_cases h : v % 65536 ≥ 32768
      · rw [if_pos h, wrap64_id (by omega) (by omega)]; congr 1; omega
      · rw [if_neg h]; congr 1; omega
    · obtain rfl : M = 2147483648 := by omega
      by_cases h : v % 4294967296 ≥ 2147483648
      · rw [if_pos h, wrap64_id (by omega) (by omega)]; congr 1; omega
      · rw [if_neg h]; congr 1; omega
  have t0 : Int.tmod 0 2 = 0 := rfl
  have t1 : Int.tmod 1 2 = 1 := rfl
  have t2 : Int.tmod 2 2 = 0 := rfl
  have t3 : Int.tmod 3 2 = 1 := rfl
  have t4 : Int.tmod 4 2 = 0 := rfl
  have t5 : Int.tmod 5 2 = 1 := rfl
  unfold plaitref02_Narrow.f plaitref02_size.f nar
  rcases hk with rfl | rfl | rfl | rfl | rfl | rfl
  · simp only [Int.reduceLT, if_true, Option.bind_some, t0, e1, big 256 128 rfl (by omega)]; rfl
  · simp only [Int.reduceLT, if_true, Option.bind_some, t1, refmod v 256 h1 h2 (by omega)]; rfl
  · simp only [Int.reduceLT, if_true, if_false, Option.bind_some, t2, e2, big 65536 32768 rfl (by omega)]; rfl
  · simp only [Int.reduceLT, if_true, if_false, Option.bind_some, t3, refmod v 65536 h1 h2 (by omega)]; rfl
  · simp only [Int.reduceLT, if_true, if_false, Option.bind_some, t4, e3, big 4294967296 2147483648 rfl (by omega)]; rfl
  · simp only [Int.reduceLT, if_true, if_false, Option.bind_some, t5, refmod v 4294967296 h1 h2 (by omega)]; rfl

theorem refHalf (v : Int) (h1 : -9223372036854775808 ≤ v) (h2 : v ≤ 9223372036854775807) : plaitref02_half.f v = some (v / 2) := by
  unfold plaitref02_half.f
  rw [tmod_cases v, tdiv_cases v]
  by_cases h : v < 0
  · have h0 : ¬ 0 ≤ v := by omega
    rw [if_pos h, if_neg h0, if_neg h0]
    rw [wrap64_id (a := -(-v / 2)) (by omega) (by omega)]
    by_cases h3 : -(-v % 2) = 0
    · rw [if_pos h3]; congr 1; omega
    · rw [if_neg h3, wrap64_id (by omega) (by omega)]; congr 1; omega
  · rw [if_neg h, if_pos (by omega), wrap64_id (by omega) (by omega)]

theorem dbl (x : Int) : wrap64 (IntKind.u64.wrap ((IntKind.u64.wrap (wrap64 x)) * 2)) = wrap64 (x * 2) := by
  have e : ∀ y, IntKind.u64.wrap y = y % 18446744073709551616 := fun y => by simp [IntKind.wrap, IntKind.bits, IntKind.signed]
  rw [e, e]; unfold wrap64; omega

theorem refShift_down (v n : Int) (h1 : -9223372036854775808 ≤ v) (h2 : v ≤ 9223372036854775807) (hn : n < 0) (hn2 : -64 ≤ n) (d : Nat) : ∀ (k i : Nat) , d < k → (i : Int) + d = -n →
    plaitref02_Shift.l1 k (v / 2 ^ i) n i = some (v / 2 ^ (-n).toNat) := by
  induction d with
  | zero =>
    intro k i hk hi
    obtain ⟨k, rfl⟩ : ∃ m, k = m + 1 := ⟨k - 1, by omega⟩
    simp only [plaitref02_Shift.l1]
    rw [wrap64_id (by omega) (by omega), if_neg (by omega)]
    rw [show (-n).toNat = i by omega]
  | succ d ih =>
    intro k i hk hi
    obtain ⟨k, rfl⟩ : ∃ m, k = m + 1 := ⟨k - 1, by omega⟩
    simp only [plaitref02_Shift.l1]
    have hp : (0 : Int) < 2 ^ i := by exact_mod_cast Nat.two_pow_pos i
    have b1 : -9223372036854775808 ≤ v / 2 ^ i := by
      have : -9223372036854775808 ≤ v / 2 ^ i ↔ -9223372036854775808 * 2 ^ i ≤ v := Int.le_ediv_iff_mul_le hp
      rw [this]
      have : (1 : Int) ≤ 2 ^ i := by omega
      generalize (2 : Int) ^ i = p at *
      omega
    have b2 : v / 2 ^ i ≤ 9223372036854775807 := by
      by_cases hv : 0 ≤ v
      · exact Int.le_trans (Int.ediv_le_self _ hv) h2
      · have := Int.ediv_neg_of_neg_of_pos (by omega : v < 0) hp
        omega
    rw [wrap64_id (a := -n) (by omega) (by omega), if_pos (by omega), refHalf _ b1 b2]
    simp only [Option.bind_some]
    rw [wrap64_id (a := (i : Int) + 1) (by omega) (by omega)]
    have := ih k (i + 1) (by omega) (by omega)
    rw [← this]
    congr 1
    rw [Int.ediv_ediv_of_nonneg (by omega), Int.pow_succ]
theorem refShift_up (v n : Int) (hn : 0 ≤ n) (hn2 : n ≤ 64) (d : Nat) : ∀ (k i : Nat) , d + 1 < k → (i : Int) + d = n →
    plaitref02_Shift.l0 k (wrap64 (v * 2 ^ i)) n i = some (wrap64 (v * 2 ^ n.toNat)) := by
  induction d with
  | zero =>
    intro k i hk hi
    obtain ⟨k, rfl⟩ : ∃ m, k = m + 2 := ⟨k - 2, by omega⟩
    simp only [plaitref02_Shift.l0]
    rw [if_neg (by omega)]
    simp only [plaitref02_Shift.l1]
    rw [wrap64_id (a := -n) (by omega) (by omega), if_neg (by omega)]
    rw [show n.toNat = i by omega]
  | succ d ih =>
    intro k i hk hi
    obtain ⟨k, rfl⟩ : ∃ m, k = m + 1 := ⟨k - 1, by omega⟩
    simp only [plaitref02_Shift.l0]
    rw [if_pos (by omega), dbl, wrap64_id (a := (i : Int) + 1) (by omega) (by omega)]
    have := ih k (i + 1) (by omega) (by omega)
    rw [← this]
    rw [show v * 2 ^ i * 2 = v * 2 ^ (i + 1) by rw [Int.pow_succ]; exact Int.mul_assoc _ _ _]
    rfl
theorem refShift (k : Nat) (v n : Int) (h1 : -9223372036854775808 ≤ v) (h2 : v ≤ 9223372036854775807) (hn1 : -64 ≤ n) (hn2 : n ≤ 64) :
    plaitref02_Shift.f (k + 100) v n = some (if n < 0 then v / 2 ^ (-n).toNat else wrap64 (v * 2 ^ n.toNat)) := by
  unfold plaitref02_Shift.f
  by_cases h : n < 0
  · rw [if_pos h]
    show plaitref02_Shift.l0 (k + 99 + 1) v n 0 = _
    rw [plaitref02_Shift.l0, if_neg (by omega)]
    have := refShift_down v n h1 h2 h hn1 (-n).toNat (k + 99) 0 (by omega) (by omega)
    simpa using this
  · rw [if_neg h]
    have := refShift_up v n (by omega) hn2 n.toNat (k + 100) 0 (by omega) (by omega)
    rw [show v * 2 ^ 0 = v by simp, wrap64_id h1 h2] at this
    simpa using this

theorem EpochTurns : plaitlaw02_EpochTurns.Pure := by
  intro v kind n hv hk hn
  obtain ⟨hv1, hv2⟩ := wf_i64 hv
  refine ⟨200, ?_⟩
  have hj1 : ∀ k x9 x10, (x9, x10) = (if n < -64 ∨ 64 < n then ((0 : Int), (1 : Int)) else (if n < 0 then v / 2 ^ (-n).toNat else wrap64 (v * 2 ^ n.toNat), 0)) → plaitlaw02_EpochTurns.j1 (k + 101) v n x9 x10 false = some true ∧ plaitlaw02_EpochTurns.j2 (k + 101) v n x9 x10 false = some true := by
    intro k x9 x10 hx
    by_cases h : n < -64 ∨ 64 < n
    · rw [if_pos h] at hx; cases hx
      constructor
      · rw [plaitlaw02_EpochTurns.j1, if_neg (by decide)]
        by_cases h1 : n < -64
        · rw [if_pos h1]; rfl
        · rw [if_neg h1, if_pos (by omega)]; rfl
      · rw [plaitlaw02_EpochTurns.j2, if_neg (by decide)]
        by_cases h1 : n < -64
        · rw [if_pos h1]; rfl
        · rw [if_neg h1, if_pos (by omega)]; rfl
    · rw [if_neg h] at hx; cases hx
      constructor
      · rw [plaitlaw02_EpochTurns.j1, if_neg (by decide), if_neg (by omega), if_neg (by omega), if_pos rfl, refShift k v n hv1 hv2 (by omega) (by omega)]; simp
      · rw [plaitlaw02_EpochTurns.j2, if_neg (by decide), if_neg (by omega), if_neg (by omega), if_pos rfl, refShift k v n hv1 hv2 (by omega) (by omega)]; simp
  unfold plaitlaw02_EpochTurns.f epoch_Narrow.f
  simp only [Option.bind_some]
  have hs : epoch_Shift.f 200 v n = some (if n < -64 ∨ 64 < n then ((0 : Int), (1 : Int)) else (if n < 0 then v / 2 ^ (-n).toNat else wrap64 (v * 2 ^ n.toNat), 0)) := by
    by_cases h : n < -64 ∨ 64 < n
    · rw [if_pos h]; exact shift_out 199 v n h
    · rw [if_neg h]; exact shift_in 199 v n (by omega) (by omega)
  rw [hs]
  simp only [Option.bind_some]
  generalize hP : (if n < -64 ∨ 64 < n then ((0 : Int), (1 : Int)) else (if n < 0 then v / 2 ^ (-n).toNat else wrap64 (v * 2 ^ n.toNat), 0)) = P at *
  obtain ⟨x9, x10⟩ := P
  have hj := fun k => hj1 k x9 x10 rfl
  rw [alive2 199]
  simp only [Option.bind_some, if_true]
  by_cases h0 : kind < 0
  · rw [if_pos h0, if_pos h0]
    show plaitlaw02_EpochTurns.j0 (199 + 1) _ _ _ _ _ _ _ _ = _
    rw [plaitlaw02_EpochTurns.j0, if_pos rfl, if_pos rfl]
    exact (hj 98).1
  · rw [if_neg h0, if_neg h0]
    show plaitlaw02_EpochTurns.j0 (199 + 1) _ _ _ _ _ _ _ _ = _
    rw [plaitlaw02_EpochTurns.j0]
    by_cases h5 : 5 < kind
    · rw [if_pos (show 6 ≤ kind by omega), if_pos (by simpa using h5), if_pos rfl]
      exact (hj 98).1
    · rw [if_neg (show ¬ 6 ≤ kind by omega), if_neg (by simpa using h5), if_pos rfl, refNarrow v kind hv1 hv2 (by omega) (by omega)]
      simp only [Option.bind_some, bne_self_eq_false]
      exact (hj 98).2
end Go.Proofs.Ytipmoncamnafbaa.Pure
