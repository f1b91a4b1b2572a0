/- Plain lemmas on package varint: numbers and their bytes. -/
import Derived.Test.YtipmoncamnafbaaX9
import Derived.Test.YtipmoncamnafbaaX10
import Derived.Test.YtipmoncamnafbaaX13
import Derived.Test.YtipmoncamnafbaaPl1
import Derived.Laws.DeepNot64
set_option linter.unusedVariables false
set_option linter.unusedSimpArgs false
namespace Go.Proofs.Ytipmoncamnafbaa.Pure
open Go.RowKit Go.Proofs.Ytipmoncamnafbaa.X Go.Proofs.YtipmoncamnafbaaW.PrintWords Go.Proofs.YtipmoncamnafbaaW.PrintLast

/-! the bytes of a text as numbers -/
def nb (s : ByteArray) : List Int := s.data.toList.map fun b => (b.toNat : Int)
theorem nb_len (s : ByteArray) : (nb s).length = s.size := by rw [nb, List.length_map]; rfl
theorem nb_str (xs : List Int) (h : ∀ x ∈ xs, 0 ≤ x ∧ x < 256) : nb (strOfNums xs) = xs := by
  unfold nb strOfNums
  simp only [List.map_map]
  conv => rhs; rw [← List.map_id xs]
  apply List.map_congr_left
  intro x hx
  have := h x hx
  simp only [Function.comp, id, UInt8.toNat_ofNat']
  omega
theorem str_nb (s : ByteArray) : strOfNums (nb s) = s := by
  unfold nb strOfNums
  simp only [List.map_map]
  have : s.data.toList.map ((fun n : Int => UInt8.ofNat n.toNat) ∘ fun b : UInt8 => (b.toNat : Int)) = s.data.toList := by
    conv => rhs; rw [← List.map_id s.data.toList]
    apply List.map_congr_left
    intro x hx
    simp
  rw [this]
theorem nb_inj {s t : ByteArray} (h : nb s = nb t) : s = t := by rw [← str_nb s, ← str_nb t, h]
theorem nb_range (s : ByteArray) : ∀ x ∈ nb s, 0 ≤ x ∧ x < 256 := by
  intro x hx
  simp only [nb, List.mem_map] at hx
  obtain ⟨b, _, rfl⟩ := hx
  have := b.toNat_lt
  omega
theorem bt_nb (s : ByteArray) (i : Nat) : bt s (i : Int) = (nb s).getD i 0 := by
  unfold bt
  simp only [Int.toNat_natCast]
  by_cases h : i < s.size
  · rw [dif_pos h]
    simp [nb, h]
    rfl
  · rw [dif_neg h]
    simp only [List.getD_eq_getElem?_getD]
    rw [List.getElem?_eq_none (by rw [nb_len]; omega)]
    rfl
theorem nb_append (s t : ByteArray) : nb (s ++ t) = nb s ++ nb t := by simp [nb]
theorem nb_extract (s : ByteArray) (a b : Nat) : nb (s.extract a b) = ((nb s).drop a).take (b - a) := by
  simp [nb, List.map_take, List.map_drop, List.extract_eq_take_drop]
theorem nb_empty : nb ⟨#[]⟩ = [] := rfl
theorem str_append (xs ys : List Int) : strOfNums (xs ++ ys) = strOfNums xs ++ strOfNums ys := by
  apply ByteArray.ext
  simp [strOfNums]
theorem getD_range (l : List Int) (h : ∀ x ∈ l, 0 ≤ x ∧ x < 256) (i : Nat) : 0 ≤ l.getD i 0 ∧ l.getD i 0 < 256 := by
  by_cases hi : i < l.length
  · have := h l[i] (List.getElem_mem hi)
    simpa [hi] using this
  · simp only [List.getD_eq_getElem?_getD]
    rw [List.getElem?_eq_none (by omega)]; simp

/-! what a place tells -/
def hv : List Int → Int
  | [] => 0
  | b :: t => b % 128 + 128 * hv t
theorem hv_snoc (l : List Int) (b : Int) : hv (l ++ [b]) = hv l + 128 ^ l.length * (b % 128) := by
  induction l with
  | nil => simp [hv]
  | cons a t ih =>
    rw [List.cons_append, hv, ih, hv, List.length_cons, Int.pow_succ]
    generalize (128 : Int) ^ t.length = P
    rw [Int.mul_add, Int.mul_comm P 128, Int.mul_assoc]; omega
theorem hv_bound (l : List Int) : 0 ≤ hv l ∧ hv l < 128 ^ l.length := by
  induction l with
  | nil => simp [hv]
  | cons a t ih =>
    rw [hv, List.length_cons, Int.pow_succ]
    generalize hP : (128 : Int) ^ t.length = P at *
    omega
def lead : Nat → List Int → Nat
  | 0, _ => 0
  | _ + 1, [] => 0
  | f + 1, b :: t => if 128 ≤ b then lead f t + 1 else 0
theorem lead_eq (f : Nat) : ∀ (l : List Int) (j : Nat), j ≤ f → j ≤ l.length → (∀ m, m < j → 128 ≤ l.getD m 0) → (j = f ∨ j = l.length ∨ l.getD j 0 < 128) → lead f l = j := by
  induction f with
  | zero => intro l j h _ _ _; simp [lead]; omega
  | succ f ih =>
    intro l j hf hl hm hj
    cases l with
    | nil => simp [lead] at *; omega
    | cons b t =>
      rw [lead]
      cases j with
      | zero =>
        rw [if_neg]
        rcases hj with h | h | h
        · omega
        · simp at h
        · simpa using h
      | succ j =>
        rw [if_pos (by simpa using hm 0 (by omega)), ih t j (by omega) (by simpa using hl) (fun m h => by simpa using hm (m + 1) (by omega)) (by
          rcases hj with h | h | h
          · exact .inl (by omega)
          · exact .inr (.inl (by simpa using h))
          · exact .inr (.inr (by simpa using h)))]
theorem lead_spec (f : Nat) : ∀ (l : List Int), lead f l ≤ f ∧ lead f l ≤ l.length ∧ (∀ m, m < lead f l → 128 ≤ l.getD m 0) ∧ (lead f l = f ∨ lead f l = l.length ∨ l.getD (lead f l) 0 < 128) := by
  induction f with
  | zero => intro l; simp [lead]
  | succ f ih =>
    intro l
    cases l with
    | nil => simp [lead]
    | cons b t =>
      rw [lead]
      obtain ⟨h1, h2, h3, h4⟩ := ih t
      by_cases hb : 128 ≤ b
      · rw [if_pos hb]
        refine ⟨by omega, by simp; omega, ?_, ?_⟩
        · intro m hm
          cases m with
          | zero => simpa using hb
          | succ m => simpa using h3 m (by omega)
        · rcases h4 with h | h | h
          · exact .inl (by omega)
          · exact .inr (.inl (by simp; omega))
          · exact .inr (.inr (by simpa using h))
      · rw [if_neg hb]
        refine ⟨by omega, by simp, by intro m hm; omega, .inr (.inr (by simpa using hb))⟩
def getL (l : List Int) : Int × Nat × Int :=
  if lead 5 l = 5 then (0, 0, 10)
  else if l.length = lead 5 l then (0, 0, 9)
  else if 0 < lead 5 l ∧ l.getD (lead 5 l) 0 = 0 then (0, 0, 10)
  else if 2147483647 < hv (l.take (lead 5 l + 1)) then (0, 0, 8)
  else (hv (l.take (lead 5 l + 1)), lead 5 l + 1, 0)
def getS (s : ByteArray) (a : Nat) : Int × Int × Int :=
  let r := getL ((nb s).drop a)
  (r.1, if r.2.2 = 0 then ((a + r.2.1 : Nat) : Int) else 0, r.2.2)

theorem or_shl (x b : Int) (i : Nat) (hi : i < 5) (hx : 0 ≤ x) (hx1 : x < 128 ^ i) (hb : 0 ≤ b) (hb1 : b < 256) :
    Go.bits .or .i64 x (shl .i64 (wrap64 (Go.bits .and .u8 b 127)) (wrap64 (7 * (i : Int)))) = x + 128 ^ i * (b % 128) := by
  have e1 : Go.bits .and .u8 b 127 = b % 128 := bits_mask .u8 8 (by decide) wraps_u8 7 (by decide) b hb hb1
  rw [e1, wrap64_id (by omega) (by omega), wrap64_id (by omega) (by omega)]
  unfold shl
  rw [show (7 * (i : Int)).toNat = 7 * i by omega, Nat.min_eq_left (show 7 * i ≤ IntKind.i64.bits by simp [IntKind.bits]; omega), i64_w]
  have e2 : ((2 : Int) ^ (7 * i)) = 128 ^ i := by rw [Int.pow_mul]; rfl
  have hp : (128 : Int) ^ i ≤ 128 ^ 4 := by
    have : i = 0 ∨ i = 1 ∨ i = 2 ∨ i = 3 ∨ i = 4 := by omega
    rcases this with h | h | h | h | h <;> subst h <;> decide
  have hp0 : (0 : Int) < 128 ^ i := by
    have : i = 0 ∨ i = 1 ∨ i = 2 ∨ i = 3 ∨ i = 4 := by omega
    rcases this with h | h | h | h | h <;> subst h <;> decide
  rw [e2]
  have hm : b % 128 * 128 ^ i < 128 * 128 ^ 4 := by
    have : b % 128 * 128 ^ i ≤ 127 * 128 ^ i := Int.mul_le_mul_of_nonneg_right (by omega) (by omega)
    omega
  have hm0 : 0 ≤ b % 128 * 128 ^ i := Int.mul_nonneg (by omega) (by omega)
  rw [wrap64_id (by omega) (by omega)]
  have e3 : Go.bits .or .i64 x (b % 128 * 128 ^ i) = Go.bits .or .i64 (b % 128 * 128 ^ i) x := by
    simp only [Go.bits]; rw [BitVec.or_comm]
  rw [e3, bits_join .i64 63 (by decide) wraps_i64 (7 * i) (b % 128 * 128 ^ i) x hm0 (by rw [e2]; exact Int.mul_emod_left ..) (by omega) hx (by rw [e2]; exact hx1) (by omega), Int.mul_comm]
  omega
theorem take_snoc (l : List Int) (i : Nat) (h : i < l.length) : l.take (i + 1) = l.take i ++ [l.getD i 0] := by
  rw [List.take_succ_eq_append_getElem h]; simp [h]
theorem hv_take_succ (l : List Int) (i : Nat) (h : i < l.length) : hv (l.take (i + 1)) = hv (l.take i) + 128 ^ i * (l.getD i 0 % 128) := by
  rw [take_snoc l i h, hv_snoc, List.length_take, Nat.min_eq_left (by omega)]
theorem hv_take_lt (l : List Int) (i : Nat) : 0 ≤ hv (l.take i) ∧ hv (l.take i) < 128 ^ i := by
  have h := hv_bound (l.take i)
  refine ⟨h.1, Int.lt_of_lt_of_le h.2 ?_⟩
  exact_mod_cast Nat.pow_le_pow_right (show 0 < 128 by omega) (by simp; omega : (l.take i).length ≤ i)
theorem drop_getD (l : List Int) (a i : Nat) : (l.drop a).getD i 0 = l.getD (a + i) 0 := by simp [List.getD_eq_getElem?_getD]

theorem get_l0 (s : ByteArray) (a : Nat) (ha : a ≤ s.size) (hs : s.size ≤ 1000000) (d : Nat) : ∀ i k, i + d = 5 → d + 1 < k → i ≤ ((nb s).drop a).length →
    (∀ m, m < i → 128 ≤ ((nb s).drop a).getD m 0) → varint_Get.l0 k s a (hv (((nb s).drop a).take i)) i = some (getS s a) := by
  have hL : ((nb s).drop a).length = s.size - a := by rw [List.length_drop, nb_len]
  have hr : ∀ x ∈ (nb s).drop a, 0 ≤ x ∧ x < 256 := fun x hx => nb_range s x (List.mem_of_mem_drop hx)
  have hb : ∀ i : Nat, bt s (wrap64 ((a : Int) + i)) = if (i : Int) < 100 then ((nb s).drop a).getD i 0 else bt s (wrap64 ((a : Int) + i)) := by
    intro i
    split
    · rw [wrap64_id (by omega) (by omega), show (a : Int) + i = ((a + i : Nat) : Int) by omega, bt_nb, drop_getD]
    · rfl
  induction d with
  | zero =>
    intro i k hi hk hil hm
    obtain ⟨k, rfl⟩ : ∃ m, k = m + 1 := ⟨k - 1, by omega⟩
    rw [varint_Get.l0, if_neg (by omega)]
    have : lead 5 ((nb s).drop a) = 5 := lead_eq 5 _ 5 (by omega) (by omega) (fun m h => hm m (by omega)) (.inl rfl)
    simp [getS, getL, this]
  | succ d ih =>
    intro i k hi hk hil hm
    obtain ⟨k, rfl⟩ : ∃ m, k = m + 1 := ⟨k - 1, by omega⟩
    have hv0 := hv_take_lt ((nb s).drop a) i
    rw [varint_Get.l0, if_pos (by omega), hb i, if_pos (show (i : Int) < 100 by omega)]
    rw [wrap64_id (a := (a : Int) + i) (by omega) (by omega)]
    by_cases h1 : (a : Int) + i = s.size
    · rw [if_pos h1]
      have : lead 5 ((nb s).drop a) = i := lead_eq 5 _ i (by omega) hil hm (.inr (.inl (by omega)))
      have h5 : ¬ i = 5 := by omega
      have hl : s.size - a = i := by omega
      simp [getS, getL, this, h5, hL, hl]
    · rw [if_neg h1, if_pos (by omega), if_pos (by omega), if_pos (by rw [wrap64_id (by omega) (by omega)]; omega)]
      have hlt : i < ((nb s).drop a).length := by omega
      obtain ⟨hb0, hb1⟩ := getD_range _ hr i
      rw [or_shl _ _ i (by omega) hv0.1 hv0.2 hb0 hb1, ← hv_take_succ _ i hlt]
      by_cases h2 : ((nb s).drop a).getD i 0 ≥ 128
      · rw [if_pos h2, wrap64_id (by omega) (by omega)]
        exact ih (i + 1) k (by omega) (by omega) (by omega) (fun m h => by
          by_cases hmi : m = i
          · rw [hmi]; exact h2
          · exact hm m (by omega))
      · rw [if_neg h2]
        have hl : lead 5 ((nb s).drop a) = i := lead_eq 5 _ i (by omega) hil hm (.inr (.inr (by omega)))
        obtain ⟨k, rfl⟩ : ∃ m, k = m + 1 := ⟨k - 1, by omega⟩
        have h5 : ¬ i = 5 := by omega
        have hl2 : ¬ ((nb s).drop a).length = i := by omega
        have key : ∀ c : Bool, (c = true ↔ 0 < i ∧ ((nb s).drop a).getD i 0 = 0) → varint_Get.j2 (k + 1) a (hv (((nb s).drop a).take (i + 1))) i c = some (getS s a) := by
          intro c hc
          rw [varint_Get.j2]
          unfold getS getL
          simp only [hl, if_neg h5, if_neg hl2]
          by_cases h3 : 0 < i ∧ ((nb s).drop a).getD i 0 = 0
          · rw [if_pos (hc.2 h3), if_pos h3]; simp
          · rw [if_neg (fun h => h3 (hc.1 h)), if_neg h3]
            by_cases h4 : hv (((nb s).drop a).take (i + 1)) > 2147483647
            · rw [if_pos h4, if_pos (by omega)]; simp
            · rw [if_neg h4, if_neg (by omega), wrap64_id (a := (a : Int) + i) (by omega) (by omega), wrap64_id (by omega) (by omega)]
              simp; omega
        by_cases h6 : ((nb s).drop a).getD i 0 = 0
        · rw [if_pos h6]
          exact key _ (by simp only [decide_eq_true_iff]; constructor; intro h; exact ⟨by omega, h6⟩; intro h; omega)
        · rw [if_neg h6]
          exact key _ (by constructor; intro h; cases h; intro h; exact absurd h.2 h6)
theorem get_in (s : ByteArray) (a : Nat) (ha : a ≤ s.size) (hs : s.size ≤ 1000000) (k : Nat) (hk : 9 ≤ k) : varint_Get.f k s a = some (getS s a) := by
  obtain ⟨k, rfl⟩ : ∃ m, k = m + 1 := ⟨k - 1, by omega⟩
  unfold varint_Get.f
  rw [if_neg (by omega), varint_Get.j0, if_neg (by simp; omega)]
  exact get_l0 s a ha hs 5 0 k (by omega) (by omega) (by omega) (by intro m hm; omega)
theorem get_out (s : ByteArray) (a : Int) (ha : a < 0 ∨ (s.size : Int) < a) (k : Nat) (hk : 1 ≤ k) : varint_Get.f k s a = some (0, 0, 3) := by
  obtain ⟨k, rfl⟩ : ∃ m, k = m + 1 := ⟨k - 1, by omega⟩
  unfold varint_Get.f
  by_cases h : a < 0
  · rw [if_pos h, varint_Get.j0]; rfl
  · rw [if_neg h, varint_Get.j0, if_pos (by simp; omega)]
end Go.Proofs.Ytipmoncamnafbaa.Pure
