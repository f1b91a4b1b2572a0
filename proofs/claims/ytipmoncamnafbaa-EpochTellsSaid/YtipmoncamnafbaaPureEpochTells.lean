/- The plain side of EpochTells: epochs packed, unpacked, as bytes, and known to a clock, as the reference says, or refused; for all whole numbers of 64 bits and all clocks. -/
import Derived.Test.YtipmoncamnafbaaX5
import Derived.Test.YtipmoncamnafbaaPl2
set_option linter.unusedVariables false
set_option linter.unusedSimpArgs false
namespace Go.Proofs.Ytipmoncamnafbaa.Pure
open Go.RowKit Go.Proofs.Ytipmoncamnafbaa.X Go.Proofs.YtipmoncamnafbaaW.PrintWords Go.Proofs.YtipmoncamnafbaaW.PrintLast

theorem strOfNums_cons (x : Int) (xs : List Int) : strOfNums [x] ++ strOfNums xs = strOfNums (x :: xs) := by
  ext1
  simp [strOfNums, ByteArray.data_append]
theorem strOfNums_nil : strOfNums [] = (⟨#[]⟩ : ByteArray) := rfl
theorem strOfNums_size (xs : List Int) : (strOfNums xs).size = xs.length := by simp [strOfNums, ByteArray.size]

/-- the bytes below k, the greatest first -/
def bl (e : Int) : Nat → List Int
  | 0 => []
  | k + 1 => byteAt e k :: bl e k
theorem bl_len (e : Int) (k : Nat) : (bl e k).length = k := by induction k with | zero => rfl | succ k ih => simp [bl, ih]
theorem refBytes_l (e : Int) (h1 : 0 ≤ e) (h2 : e ≤ 17592186044431) (d : Nat) : ∀ k i : Nat, d < k → i + d = 8 →
    plaitref02_Bytes.l0 k (e / 2 ^ (8 * i)) (strOfNums (bl e i)) i = some (strOfNums (bl e 8)) := by
  induction d with
  | zero =>
    intro k i hk hi
    obtain ⟨k, rfl⟩ : ∃ m, k = m + 1 := ⟨k - 1, by omega⟩
    obtain rfl : i = 8 := by omega
    rw [plaitref02_Bytes.l0, if_neg (by omega)]
  | succ d ih =>
    intro k i hk hi
    obtain ⟨k, rfl⟩ : ∃ m, k = m + 1 := ⟨k - 1, by omega⟩
    have hp : (0 : Int) < 2 ^ (8 * i) := by exact_mod_cast Nat.two_pow_pos (8 * i)
    have b1 : 0 ≤ e / 2 ^ (8 * i) := Int.ediv_nonneg h1 (by omega)
    have b2 : e / 2 ^ (8 * i) ≤ 17592186044431 := Int.le_trans (Int.ediv_le_self _ h1) h2
    have hstep : e / 2 ^ (8 * i) / 256 = e / 2 ^ (8 * (i + 1)) := by
      rw [Int.ediv_ediv_of_nonneg (by omega), show 8 * (i + 1) = 8 * i + 8 by omega, Int.pow_add]; rfl
    rw [plaitref02_Bytes.l0, if_pos (by omega), tmod_cases, tdiv_cases, if_pos b1, if_pos b1, wrap64_id (a := (e / 2 ^ (8 * i)) / 256) (by omega) (by omega), wrap64_id (a := (i : Int) + 1) (by omega) (by omega)]
    simp only [Option.bind_some]
    rw [if_pos (by rw [strOfNums_size, strOfNums_size, bl_len]; simp; omega), strOfNums_cons, hstep]
    have := ih k (i + 1) (by omega) (by omega)
    rw [← this]
    simp only [bl, byteAt]
    rw [Int.emod_emod_of_dvd _ (by decide : (256 : Int) ∣ 256)]
    rfl
theorem refBytes (k : Nat) (e : Int) (h1 : 0 ≤ e) (h2 : e ≤ 17592186044431) (hk : 10 ≤ k) : plaitref02_Bytes.f k e = some (strOfNums [byteAt e 7, byteAt e 6, byteAt e 5, byteAt e 4, byteAt e 3, byteAt e 2, byteAt e 1, byteAt e 0]) := by
  unfold plaitref02_Bytes.f
  have := refBytes_l e h1 h2 8 k 0 (by omega) (by omega)
  simpa [bl, strOfNums_nil] using this

theorem tells_j3 (k : Nat) (n : Int) (c : List Int) (hc : c.length ≤ 20) (h1 : 0 ≤ n) (h2 : n ≤ 17592186044431) (x14 : Bool) (x15 : Int) (hx : (x14, x15) = (if vok c then (decide (n / 16 ≤ (whole c).getD (n % 16).toNat 0), (0 : Int)) else (false, 1))) :
    plaitlaw02_EpochTells.j3 (k + 41) n c x14 x15 false = some true := by
  rw [plaitlaw02_EpochTells.j3, if_neg (by decide), refRight (k + 40) c hc (by omega)]
  simp only [Option.bind_some]
  by_cases h : vok c = true
  · rw [if_pos h] at hx; cases hx
    rw [if_pos h, if_pos rfl, refKnown n c h1 h2]; simp
  · rw [if_neg h] at hx; cases hx
    rw [if_neg h, if_pos rfl]; rfl
theorem tells_j2 (k : Nat) (n : Int) (c : List Int) (hc : c.length ≤ 20) (a b h i j : Int) (is : Bool) (s : ByteArray) (hu : epoch_Unpack.f n = some (a, b, h)) (hkn : epoch_Known.f n c = some (is, i)) (hb : epoch_Bytes.f n = some (s, j)) :
    plaitlaw02_EpochTells.j2 (k + 42) n c a b h is i s j = some true := by
  rw [plaitlaw02_EpochTells.j2]
  by_cases hr : 0 ≤ n ∧ n ≤ 17592186044431
  · obtain ⟨h1, h2⟩ := hr
    rw [unpack_in n h1 h2] at hu; cases hu
    rw [known_in n c h1 h2] at hkn
    unfold epoch_Bytes.f at hb
    rw [if_neg (by omega), if_neg (by omega)] at hb; cases hb
    unfold plaitref02_Epoch.f plaitref02_Unpack.f
    rw [if_pos h1]
    simp only [Option.bind_some]
    rw [if_pos (by simp; omega)]
    simp only [if_true]
    rw [tdiv_cases, tmod_cases, if_pos h1, if_pos h1, wrap64_id (by omega) (by omega), if_pos rfl, if_pos rfl, refBytes (k + 41) n h1 h2 (by omega)]
    simp only [Option.bind_some, bne_self_eq_false]
    exact tells_j3 k n c hc h1 h2 is i (Option.some.inj hkn).symm
  · have ho : n < 0 ∨ 17592186044431 < n := by omega
    rw [unpack_out n ho] at hu; cases hu
    rw [known_out n c ho] at hkn; cases hkn
    unfold epoch_Bytes.f at hb
    have hb' : (s, j) = ((⟨#[]⟩ : ByteArray), (1 : Int)) := by
      by_cases h0 : n < 0
      · rw [if_pos h0] at hb; exact (Option.some.inj hb).symm
      · rw [if_neg h0, if_pos (by omega)] at hb; exact (Option.some.inj hb).symm
    cases hb'
    have he : plaitref02_Epoch.f n = some false := by
      unfold plaitref02_Epoch.f
      by_cases h0 : n ≥ 0
      · rw [if_pos h0]; congr 1; simp; omega
      · rw [if_neg h0]
    rw [he]
    simp only [Option.bind_some]
    rw [if_neg (by decide)]
    simp only [if_true]
    rw [if_neg (by decide)]
    rw [ByteArray.toList, ByteArray.toList.loop]; rfl
theorem EpochTells : plaitlaw02_EpochTells.Pure := by
  intro t g n l ht hg hn _ _ hl
  obtain ⟨ht1, ht2⟩ := wf_i64 ht
  obtain ⟨hg1, hg2⟩ := wf_i64 hg
  refine ⟨100, ?_⟩
  unfold plaitlaw02_EpochTells.f
  rw [few2]
  simp only [Option.bind_some]
  have hc : (l.take 20).length ≤ 20 := by simp; omega
  generalize l.take 20 = c at *
  obtain ⟨⟨a, b, h⟩, hu⟩ : ∃ p, epoch_Unpack.f n = some p := by
    by_cases hr : 0 ≤ n ∧ n ≤ 17592186044431
    · exact ⟨_, unpack_in n hr.1 hr.2⟩
    · exact ⟨_, unpack_out n (by omega)⟩
  obtain ⟨⟨is, i⟩, hkn⟩ : ∃ p, epoch_Known.f n c = some p := by
    by_cases hr : 0 ≤ n ∧ n ≤ 17592186044431
    · exact ⟨_, known_in n c hr.1 hr.2⟩
    · exact ⟨_, known_out n c (by omega)⟩
  obtain ⟨⟨s, j⟩, hb⟩ : ∃ p, epoch_Bytes.f n = some p := ⟨_, rfl⟩
  have hj2 := fun k => tells_j2 k n c hc a b h i j is s hu hkn hb
  rw [hu, hkn, hb, alive2 99]
  simp only [Option.bind_some, if_true]
  by_cases h0 : t < 0
  · rw [pack_arg 99 t g (by omega)]
    simp only [Option.bind_some]
    rw [if_pos h0, plaitlaw02_EpochTells.j0, if_pos rfl, if_pos rfl, if_pos rfl]
    exact hj2 57
  · by_cases h1 : t > 1099511627776
    · rw [pack_arg 99 t g (by omega)]
      simp only [Option.bind_some]
      rw [if_neg h0, plaitlaw02_EpochTells.j0, if_pos (by simpa using h1), if_pos rfl, if_pos rfl]
      exact hj2 57
    · by_cases h2 : g < 0
      · rw [pack_range 99 t g (by omega) (by omega) (by omega)]
        simp only [Option.bind_some]
        rw [if_neg h0, plaitlaw02_EpochTells.j0, if_neg (by simpa using h1), if_pos h2, plaitlaw02_EpochTells.j1, if_pos rfl, if_pos rfl, if_pos rfl]
        exact hj2 56
      · by_cases h3 : g > 15
        · rw [pack_range 99 t g (by omega) (by omega) (by omega)]
          simp only [Option.bind_some]
          rw [if_neg h0, plaitlaw02_EpochTells.j0, if_neg (by simpa using h1), if_neg h2, plaitlaw02_EpochTells.j1, if_pos (by simpa using h3), if_pos rfl, if_pos rfl]
          exact hj2 56
        · rw [pack_in 99 t g (by omega) (by omega) (by omega) (by omega)]
          simp only [Option.bind_some]
          rw [if_neg h0, plaitlaw02_EpochTells.j0, if_neg (by simpa using h1), if_neg h2, plaitlaw02_EpochTells.j1, if_neg (by simpa using h3), if_pos rfl, wrap64_id (a := 16 * t) (by omega) (by omega), wrap64_id (by omega) (by omega), if_pos rfl]
          exact hj2 56
end Go.Proofs.Ytipmoncamnafbaa.Pure
