/- Plain lemmas on package varint: the reference, and the bytes of numbers. -/
import Derived.Test.YtipmoncamnafbaaPl4
import Derived.Lib.Bytes
set_option linter.unusedVariables false
set_option linter.unusedSimpArgs false
namespace Go.Proofs.Ytipmoncamnafbaa.Pure
open Go.RowKit Go.Proofs.Ytipmoncamnafbaa.X Go.Proofs.YtipmoncamnafbaaW.PrintWords Go.Proofs.YtipmoncamnafbaaW.PrintLast

theorem refEnd_l0 (s : ByteArray) (a : Nat) (ha : a ≤ s.size) (hs : s.size ≤ 1000000) (d : Nat) : ∀ i k, i + d = 5 → 2 * d + 2 < k → i ≤ ((nb s).drop a).length →
    (∀ m, m < i → 128 ≤ ((nb s).drop a).getD m 0) → plaitref03_end.l0 k s a ((a : Int) + i) =
      some (if lead 5 ((nb s).drop a) = 5 ∨ ((nb s).drop a).length = lead 5 ((nb s).drop a) then ((a : Int) + (lead 5 ((nb s).drop a) : Nat), false) else ((a : Int) + (lead 5 ((nb s).drop a) : Nat) + 1, true)) := by
  have hL : ((nb s).drop a).length = s.size - a := by rw [List.length_drop, nb_len]
  induction d with
  | zero =>
    intro i k hi hk hil hm
    obtain ⟨k, rfl⟩ : ∃ m, k = m + 2 := ⟨k - 2, by omega⟩
    have : lead 5 ((nb s).drop a) = 5 := lead_eq 5 _ 5 (by omega) (by omega) (fun m h => hm m (by omega)) (.inl rfl)
    rw [plaitref03_end.l0, this, if_pos (show 5 = 5 ∨ ((nb s).drop a).length = 5 from .inl rfl), wrap64_id (by omega) (by omega)]
    have hi5 : i = 5 := by omega
    subst hi5
    by_cases c : (a : Int) + ((5 : Nat) : Int) < s.size
    · rw [if_pos c, plaitref03_end.j1, if_neg (by simp)]
    · rw [if_neg c, plaitref03_end.j1, if_neg (by simp)]
  | succ d ih =>
    intro i k hi hk hil hm
    obtain ⟨k, rfl⟩ : ∃ m, k = m + 2 := ⟨k - 2, by omega⟩
    rw [plaitref03_end.l0, wrap64_id (a := (a : Int) + 5) (by omega) (by omega)]
    by_cases h1 : (a : Int) + i < s.size
    · rw [if_pos h1, plaitref03_end.j1, if_pos (by simp; omega), wrap64_id (a := (a : Int) + i + 1) (by omega) (by omega), wrap64_id (by omega) (by omega), if_pos (by omega), if_pos (by omega)]
      have e1 : bt s ((a : Int) + i + 1 - 1) = ((nb s).drop a).getD i 0 := by
        rw [show (a : Int) + i + 1 - 1 = ((a + i : Nat) : Int) by omega, bt_nb, drop_getD]
      rw [e1]
      by_cases h2 : ((nb s).drop a).getD i 0 < 128
      · have hl : lead 5 ((nb s).drop a) = i := lead_eq 5 _ i (by omega) hil hm (.inr (.inr h2))
        rw [if_pos h2, hl, if_neg (by omega)]
      · rw [if_neg h2]
        have := ih (i + 1) k (by omega) (by omega) (by omega) (fun m h => by
          by_cases hmi : m = i
          · rw [hmi]; omega
          · exact hm m (by omega))
        rw [show (a : Int) + i + 1 = (a : Int) + ((i + 1 : Nat) : Int) by omega]
        exact this
    · have hl : lead 5 ((nb s).drop a) = i := lead_eq 5 _ i (by omega) hil hm (.inr (.inl (by omega)))
      rw [if_neg h1, plaitref03_end.j1, if_neg (by simp), hl, if_pos (.inr (by omega))]
theorem refEnd (s : ByteArray) (a : Nat) (ha : a ≤ s.size) (hs : s.size ≤ 1000000) (k : Nat) (hk : 20 ≤ k) : plaitref03_end.f k s a =
    some (if lead 5 ((nb s).drop a) = 5 ∨ ((nb s).drop a).length = lead 5 ((nb s).drop a) then ((a : Int) + (lead 5 ((nb s).drop a) : Nat), false) else ((a : Int) + (lead 5 ((nb s).drop a) : Nat) + 1, true)) := by
  have := refEnd_l0 s a ha hs 5 0 k (by omega) (by omega) (by omega) (by intro m hm; omega)
  unfold plaitref03_end.f
  rw [show ((a : Int) + ((0 : Nat) : Int)) = (a : Int) by omega] at this
  exact this
theorem hv_drop (l : List Int) (t p : Nat) (hp : p < t) (ht : t ≤ l.length) : hv ((l.take t).drop p) = l.getD p 0 % 128 + 128 * hv ((l.take t).drop (p + 1)) := by
  rw [List.drop_eq_getElem_cons (by simp; omega), hv]
  congr 2
  simp [show p < l.length by omega]
theorem hv_drop_bound (l : List Int) (t p : Nat) (ht5 : t ≤ 5) : 0 ≤ hv ((l.take t).drop p) ∧ hv ((l.take t).drop p) ≤ 34359738368 := by
  have h := hv_bound ((l.take t).drop p)
  have h2 : (128 : Int) ^ ((l.take t).drop p).length ≤ 128 ^ 5 := by
    exact_mod_cast Nat.pow_le_pow_right (show 0 < 128 by omega) (by simp; omega : ((l.take t).drop p).length ≤ 5)
  omega
theorem refGet_l0 (s : ByteArray) (a t : Nat) (hs : s.size ≤ 1000000) (ht : a + t ≤ s.size) (ht1 : 1 ≤ t) (ht5 : t ≤ 5) (p : Nat) : ∀ k, p + 1 < k → p ≤ t →
    plaitref03_Get.l0 k s a ((a : Int) + t) (hv ((((nb s).drop a).take t).drop p)) ((a : Int) + p - 1) =
      some (if 2147483647 < hv (((nb s).drop a).take t) then (0, 0, 8) else (hv (((nb s).drop a).take t), (a : Int) + t, 0)) := by
  have hL : ((nb s).drop a).length = s.size - a := by rw [List.length_drop, nb_len]
  have hr : ∀ x ∈ (nb s).drop a, 0 ≤ x ∧ x < 256 := fun x hx => nb_range s x (List.mem_of_mem_drop hx)
  induction p with
  | zero =>
    intro k hk hp
    obtain ⟨k, rfl⟩ : ∃ m, k = m + 1 := ⟨k - 1, by omega⟩
    rw [plaitref03_Get.l0, if_neg (by omega), List.drop_zero]
    split <;> rfl
  | succ p ih =>
    intro k hk hp
    obtain ⟨k, rfl⟩ : ∃ m, k = m + 1 := ⟨k - 1, by omega⟩
    rw [plaitref03_Get.l0, if_pos (by omega), if_pos (by omega), if_pos (by omega)]
    have e1 : bt s ((a : Int) + ((p + 1 : Nat) : Int) - 1) = ((nb s).drop a).getD p 0 := by
      rw [show (a : Int) + ((p + 1 : Nat) : Int) - 1 = ((a + p : Nat) : Int) by omega, bt_nb, drop_getD]
    obtain ⟨hb0, hb1⟩ := getD_range _ hr p
    have hB := hv_drop_bound ((nb s).drop a) t (p + 1) ht5
    rw [e1, wrap64_id (a := ((nb s).drop a).getD p 0) (by omega) (by omega), tmod_cases, if_pos hb0, wrap64_id (a := 128 * _) (by omega) (by omega), wrap64_id (a := 128 * _ + _) (by omega) (by omega), wrap64_id (by omega) (by omega)]
    have := ih k (by omega) (by omega)
    rw [hv_drop _ _ _ (by omega) (by omega)] at this
    rw [show 128 * hv ((((nb s).drop a).take t).drop (p + 1)) + ((nb s).drop a).getD p 0 % 128 = ((nb s).drop a).getD p 0 % 128 + 128 * hv ((((nb s).drop a).take t).drop (p + 1)) by omega,
      show (a : Int) + ((p + 1 : Nat) : Int) - 1 - 1 = (a : Int) + p - 1 by omega]
    exact this
theorem refGet_in (s : ByteArray) (a : Nat) (ha : a ≤ s.size) (hs : s.size ≤ 1000000) (k : Nat) (hk : 20 ≤ k) : plaitref03_Get.f k s a = some (getS s a) := by
  have hL : ((nb s).drop a).length = s.size - a := by rw [List.length_drop, nb_len]
  unfold plaitref03_Get.f
  rw [refEnd s a ha hs k hk]
  simp only [Option.bind_some]
  obtain ⟨h1, h2, h3, h4⟩ := lead_spec 5 ((nb s).drop a)
  obtain ⟨k, rfl⟩ : ∃ m, k = m + 2 := ⟨k - 2, by omega⟩
  unfold getS getL
  generalize lead 5 ((nb s).drop a) = j at *
  by_cases c1 : j = 5
  · subst c1
    simp only [if_pos (show 5 = 5 ∨ ((nb s).drop a).length = 5 from .inl rfl)]
    rw [if_neg (by simp), plaitref03_Get.j0, wrap64_id (by omega) (by omega), if_pos (by simp)]
    simp
  · by_cases c2 : ((nb s).drop a).length = j
    · simp only [if_pos (show j = 5 ∨ ((nb s).drop a).length = j from .inr c2)]
      rw [if_neg (by simp), plaitref03_Get.j0, wrap64_id (by omega) (by omega), if_neg (by simp; omega), if_neg (by simp)]
      simp only [if_neg c1, if_pos c2]
      simp
    · simp only [if_neg (show ¬ (j = 5 ∨ ((nb s).drop a).length = j) from fun h => h.elim c1 c2)]
      rw [if_pos trivial, plaitref03_Get.j0, if_neg (by simp), if_pos rfl]
      simp only [if_neg c1, if_neg c2]
      have key : ∀ c : Bool, (c = true ↔ 0 < j ∧ ((nb s).drop a).getD j 0 = 0) → plaitref03_Get.j1 (k + 1) s a ((a : Int) + (j : Nat) + 1) c =
          some ((if 0 < j ∧ ((nb s).drop a).getD j 0 = 0 then ((0, 0, 10) : Int × Nat × Int) else if 2147483647 < hv (((nb s).drop a).take (j + 1)) then (0, 0, 8) else (hv (((nb s).drop a).take (j + 1)), j + 1, 0)).1,
            if (if 0 < j ∧ ((nb s).drop a).getD j 0 = 0 then ((0, 0, 10) : Int × Nat × Int) else if 2147483647 < hv (((nb s).drop a).take (j + 1)) then (0, 0, 8) else (hv (((nb s).drop a).take (j + 1)), j + 1, 0)).2.2 = 0 then
              ((a + (if 0 < j ∧ ((nb s).drop a).getD j 0 = 0 then ((0, 0, 10) : Int × Nat × Int) else if 2147483647 < hv (((nb s).drop a).take (j + 1)) then (0, 0, 8) else (hv (((nb s).drop a).take (j + 1)), j + 1, 0)).2.1 : Nat) : Int) else 0,
            (if 0 < j ∧ ((nb s).drop a).getD j 0 = 0 then ((0, 0, 10) : Int × Nat × Int) else if 2147483647 < hv (((nb s).drop a).take (j + 1)) then (0, 0, 8) else (hv (((nb s).drop a).take (j + 1)), j + 1, 0)).2.2) := by
        intro c hc
        rw [plaitref03_Get.j1]
        by_cases c3 : 0 < j ∧ ((nb s).drop a).getD j 0 = 0
        · rw [if_pos (hc.2 c3)]; simp only [if_pos c3]; simp
        · rw [if_neg (fun h => c3 (hc.1 h))]; simp only [if_neg c3]
          have e := refGet_l0 s a (j + 1) hs (by omega) (by omega) (by omega) (j + 1) k (by omega) (by omega)
          have e0 : hv ((((nb s).drop a).take (j + 1)).drop (j + 1)) = 0 := by
            rw [List.drop_eq_nil_of_le (by rw [List.length_take]; omega)]; rfl
          rw [e0] at e
          rw [wrap64_id (by omega) (by omega), show (a : Int) + (j : Nat) + 1 = (a : Int) + ((j + 1 : Nat) : Int) by omega, e]
          by_cases c4 : 2147483647 < hv (((nb s).drop a).take (j + 1))
          · simp only [if_pos c4]; simp
          · simp only [if_neg c4]; simp
      by_cases c5 : 0 < j
      · rw [wrap64_id (a := (a : Int) + 1) (by omega) (by omega), if_pos (by omega), wrap64_id (by omega) (by omega), if_pos (by omega), if_pos (by omega)]
        apply key
        have e1 : bt s ((a : Int) + j + 1 - 1) = ((nb s).drop a).getD j 0 := by
          rw [show (a : Int) + j + 1 - 1 = ((a + j : Nat) : Int) by omega, bt_nb, drop_getD]
        rw [e1]
        simp only [beq_iff_eq]
        exact ⟨fun h => ⟨c5, h⟩, fun h => h.2⟩
      · rw [wrap64_id (a := (a : Int) + 1) (by omega) (by omega), if_neg (by omega)]
        apply key
        constructor
        · intro h; cases h
        · intro h; exact absurd h.1 c5

/-! numbers and their bytes -/
def can (c : List Int) : Prop := ∃ i x, c = i ++ [x] ∧ (∀ b ∈ i, 128 ≤ b ∧ b < 256) ∧ 0 ≤ x ∧ x < 128 ∧ (i ≠ [] → x ≠ 0)
theorem can_one (x : Int) (h0 : 0 ≤ x) (h1 : x < 128) : can [x] := ⟨[], x, rfl, by simp, h0, h1, by simp⟩
theorem can_cons (b : Int) (c : List Int) (hb : 128 ≤ b ∧ b < 256) (hc : can c) (hn : c ≠ [0]) : can (b :: c) := by
  obtain ⟨i, x, rfl, h1, h2, h3, h4⟩ := hc
  refine ⟨b :: i, x, rfl, ?_, h2, h3, ?_⟩
  · intro y hy
    rcases List.mem_cons.1 hy with h | h
    · rw [h]; exact hb
    · exact h1 y h
  · intro _ hx
    by_cases hi : i = []
    · exact hn (by rw [hi, hx]; rfl)
    · exact h4 hi hx
theorem putN_lt {n : Nat} (h : n < 128) : putN n = [(n : Int)] := by rw [putN, dif_pos h]
theorem putN_ge {n : Nat} (h : ¬ n < 128) : putN n = ((n % 128 + 128 : Nat) : Int) :: putN (n / 128) := by rw [putN, dif_neg h]
theorem putN_zero (n : Nat) (h : putN n = [0]) : n = 0 := by
  by_cases hn : n < 128
  · rw [putN_lt hn] at h; simpa using h
  · rw [putN_ge hn] at h; simp at h; omega
theorem can_putN (n : Nat) : can (putN n) := by
  induction n using Nat.strongRecOn with
  | _ n ih =>
    by_cases hn : n < 128
    · rw [putN_lt hn]; exact can_one _ (by omega) (by omega)
    · rw [putN_ge hn]
      exact can_cons _ _ (by omega) (ih (n / 128) (by omega)) (fun h => by have := putN_zero _ h; omega)
theorem hv_putN (n : Nat) : hv (putN n) = n := by
  induction n using Nat.strongRecOn with
  | _ n ih =>
    by_cases hn : n < 128
    · rw [putN_lt hn]; simp [hv]; omega
    · rw [putN_ge hn, hv, ih (n / 128) (by omega)]; omega
theorem hv_pos_of (i : List Int) (x : Int) (hx : 0 < x ∧ x < 128) : 0 < hv (i ++ [x]) := by
  induction i with
  | nil => simp [hv]; omega
  | cons a t ih => rw [List.cons_append, hv]; omega
theorem putN_hv (c : List Int) (h : can c) : putN (hv c).toNat = c := by
  obtain ⟨i, x, rfl, h1, h2, h3, h4⟩ := h
  induction i with
  | nil => simp only [List.nil_append, hv]; rw [putN_lt (by omega)]; congr 1; omega
  | cons b t ih =>
    have hb := h1 b (by simp)
    have hx := h4 (by simp)
    have hp := hv_pos_of t x ⟨by omega, h3⟩
    rw [List.cons_append, hv, putN_ge (by omega)]
    have e1 : (b % 128 + 128 * hv (t ++ [x])).toNat / 128 = (hv (t ++ [x])).toNat := by omega
    rw [e1, ih (fun y hy => h1 y (by simp [hy])) (fun _ => hx)]
    congr 1; omega
theorem putN_range (n : Nat) : ∀ x ∈ putN n, 0 ≤ x ∧ x < 256 := by
  obtain ⟨i, x, e, h1, h2, h3, _⟩ := can_putN n
  rw [e]
  intro y hy
  rcases List.mem_append.1 hy with h | h
  · have := h1 y h; omega
  · simp at h; omega
theorem nb_put (n : Nat) : nb (strOfNums (putN n)) = putN n := nb_str _ (putN_range n)
theorem getL_can (c rest : List Int) (h : can c) (hl : c.length ≤ 5) (hv_ : hv c ≤ 2147483647) : getL (c ++ rest) = (hv c, c.length, 0) := by
  obtain ⟨i, x, rfl, h1, h2, h3, h4⟩ := h
  have hx : ((i ++ [x]) ++ rest).getD i.length 0 = x := by simp
  have e : lead 5 ((i ++ [x]) ++ rest) = i.length := by
    refine lead_eq 5 _ i.length (by simp at hl; omega) (by simp) (fun m hm => ?_) (.inr (.inr (by rw [hx]; exact h3)))
    have : ((i ++ [x]) ++ rest).getD m 0 = i[m] := by simp [List.getElem?_append, hm]
    rw [this]; exact (h1 _ (List.getElem_mem hm)).1
  unfold getL
  rw [e]
  have hl' : i.length < 5 := by simp at hl; omega
  rw [if_neg (by omega), if_neg (by simp), hx]
  have et : ((i ++ [x]) ++ rest).take (i.length + 1) = i ++ [x] := by
    rw [List.take_append_of_le_length (by simp), List.take_of_length_le (by simp)]
  rw [et, if_neg (fun hc => h4 (List.ne_nil_of_length_pos hc.1) hc.2), if_neg (by omega)]
  simp
theorem getL_ok (l : List Int) (hr : ∀ x ∈ l, 0 ≤ x ∧ x < 256) (h : (getL l).2.2 = 0) :
    1 ≤ (getL l).2.1 ∧ (getL l).2.1 ≤ 5 ∧ (getL l).2.1 ≤ l.length ∧ can (l.take (getL l).2.1) ∧ (getL l).1 = hv (l.take (getL l).2.1) ∧ 0 ≤ (getL l).1 ∧ (getL l).1 ≤ 2147483647 := by
  obtain ⟨h1, h2, h3, h4⟩ := lead_spec 5 l
  unfold getL at h ⊢
  generalize lead 5 l = j at *
  by_cases c1 : j = 5
  · rw [if_pos c1] at h; simp at h
  · rw [if_neg c1] at h ⊢
    by_cases c2 : l.length = j
    · rw [if_pos c2] at h; simp at h
    · rw [if_neg c2] at h ⊢
      by_cases c3 : 0 < j ∧ l.getD j 0 = 0
      · rw [if_pos c3] at h; simp at h
      · rw [if_neg c3] at h ⊢
        by_cases c4 : 2147483647 < hv (l.take (j + 1))
        · rw [if_pos c4] at h; simp at h
        · rw [if_neg c4] at h ⊢
          refine ⟨by simp, by simp; omega, by simp; omega, ?_, rfl, (hv_bound _).1, by simpa using c4⟩
          have hlt : j < l.length := by omega
          have hj := getD_range l hr j
          refine ⟨l.take j, l.getD j 0, take_snoc l j hlt, ?_, hj.1, by omega, ?_⟩
          · intro b hb
            obtain ⟨m, hm, rfl⟩ := List.getElem_of_mem hb
            have hm' : m < j := by simp at hm; omega
            have := h3 m hm'
            have h5 := hr l[m] (List.getElem_mem (by omega))
            have e : l.getD m 0 = l[m] := by simp [show m < l.length by omega]
            simp only [List.getElem_take]
            omega
          · intro hn hz
            exact c3 ⟨by
              rcases Nat.eq_zero_or_pos j with h | h
              · subst h; simp at hn
              · exact h, hz⟩
theorem small_in (n : Int) (h0 : 0 ≤ n) (h1 : n ≤ 2147483647) : varint_Put.f n = some (strOfNums (putN n.toNat), 0) := by
  unfold varint_Put.f isSmallB
  rw [if_pos (by simp; omega)]
theorem small_out (n : Int) (h : n < 0 ∨ 2147483647 < n) : varint_Put.f n = some (⟨#[]⟩, 1) := by
  unfold varint_Put.f isSmallB
  rw [if_neg (by simp; omega)]
theorem refSmall (n : Int) : plaitref03_Small.f n = some (decide (0 ≤ n) && decide (n ≤ 2147483647)) := by
  unfold plaitref03_Small.f
  by_cases h : n ≥ 0
  · rw [if_pos h]; simp [h]
  · rw [if_neg h]; simp; omega
theorem refPut (n : Nat) : ∀ k, n < 128 ^ k → n ≤ 4294967296 → 0 < k → plaitref03_Put.f k n = some (strOfNums (putN n)) := by
  induction n using Nat.strongRecOn with
  | _ n ih =>
    intro k hk hn h0
    obtain ⟨k, rfl⟩ : ∃ m, k = m + 1 := ⟨k - 1, by omega⟩
    rw [plaitref03_Put.f]
    by_cases h : n < 128
    · rw [if_pos (by omega), putN_lt h]
      congr 3
      rw [Int.emod_eq_of_lt (by omega) (by omega)]
    · rw [if_neg (by omega), tmod_cases, tdiv_cases, if_pos (by omega), if_pos (by omega)]
      simp only [Option.bind_some]
      rw [wrap64_id (a := (n : Int) / 128) (by omega) (by omega), show (n : Int) / 128 = ((n / 128 : Nat) : Int) by omega]
      have hk0 : 0 < k := by
        rcases Nat.eq_zero_or_pos k with h2 | h2
        · subst h2; simp at hk; omega
        · exact h2
      rw [ih (n / 128) (by omega) k (Nat.div_lt_of_lt_mul (by rw [Nat.pow_succ, Nat.mul_comm] at hk; exact hk)) (by omega) hk0]
      simp only [Option.bind_some]
      have hlen : (putN (n / 128)).length ≤ 5 := putN_len _ (by omega)
      have e3 : wrap64 ((n : Int) % 128 + 128) % 256 = ((n % 128 + 128 : Nat) : Int) := by
        rw [wrap64_id (by omega) (by omega), Int.emod_eq_of_lt (by omega) (by omega)]; omega
      rw [e3, if_pos (by rw [strOfNums_size, strOfNums_size]; simp; omega), putN_ge h]
      exact congrArg some (str_append [((n % 128 + 128 : Nat) : Int)] (putN (n / 128))).symm
theorem refPut' (n : Int) (k : Nat) (h0 : 0 ≤ n) (h1 : n ≤ 2147483648) (hk : 6 ≤ k) : plaitref03_Put.f k n = some (strOfNums (putN n.toNat)) := by
  obtain ⟨m, rfl⟩ : ∃ m : Nat, n = m := ⟨n.toNat, by omega⟩
  have : (128 : Nat) ^ 6 ≤ 128 ^ k := Nat.pow_le_pow_right (by omega) hk
  exact refPut m k (by omega) (by omega) (by omega)
/-! signed ones -/
theorem xor_zero (x : Int) (h1 : -9223372036854775808 ≤ x) (h2 : x ≤ 9223372036854775807) : Go.bits .xor .i64 x 0 = x := by
  show IntKind.i64.wrap ((BitVec.ofInt 64 x ^^^ BitVec.ofInt 64 0).toNat : Int) = x
  have h : BitVec.ofInt 64 0 = 0#64 := by decide
  rw [h, BitVec.xor_zero, BitVec.toNat_ofInt]
  simp [IntKind.wrap, IntKind.bits, IntKind.signed]
  omega
theorem xor_ones (x : Int) (h1 : -9223372036854775808 ≤ x) (h2 : x ≤ 9223372036854775807) : Go.bits .xor .i64 x (-1) = -1 - x := by
  show IntKind.i64.wrap ((BitVec.ofInt 64 x ^^^ BitVec.ofInt 64 (-1)).toNat : Int) = _
  have h : BitVec.ofInt 64 (-1) = BitVec.allOnes 64 := by decide
  rw [h, BitVec.xor_allOnes, BitVec.toNat_not, BitVec.toNat_ofInt]
  simp [IntKind.wrap, IntKind.bits, IntKind.signed]
  omega
def fold (n : Int) : Int := if n < 0 then -2 * n - 1 else 2 * n
def unfold_ (n : Int) : Int := if n % 2 = 1 then -((n + 1) / 2) else n / 2
theorem sign_in (n : Int) (h0 : -1073741824 ≤ n) (h1 : n < 1073741824) : varint_Sign.f n = some (strOfNums (putN (fold n).toNat), 0) := by
  unfold varint_Sign.f
  rw [if_neg (by omega), if_neg (by omega), wrap64_id (by omega) (by omega)]
  have : Go.bits .xor .i64 (n * 2) (n / 9223372036854775808) = fold n := by
    unfold fold
    by_cases h : n < 0
    · rw [show n / 9223372036854775808 = -1 by omega, xor_ones _ (by omega) (by omega), if_pos h]; omega
    · rw [show n / 9223372036854775808 = 0 by omega, xor_zero _ (by omega) (by omega), if_neg h]; omega
  have hf : 0 ≤ fold n ∧ fold n ≤ 2147483647 := by unfold fold; split <;> omega
  rw [this, small_in _ hf.1 hf.2]
  rfl
theorem sign_out (n : Int) (h : n < -1073741824 ∨ 1073741824 ≤ n) : varint_Sign.f n = some (⟨#[]⟩, 1) := by
  unfold varint_Sign.f
  by_cases h1 : n < -1073741824
  · rw [if_pos h1]
  · rw [if_neg h1, if_pos (by omega)]
theorem refFold (n : Int) (h0 : -1073741824 ≤ n) (h1 : n < 1073741824) : plaitref03_Fold.f n = some (fold n) := by
  unfold plaitref03_Fold.f fold
  by_cases h : n < 0
  · rw [if_pos h, if_pos h, wrap64_id (a := 2 * n) (by omega) (by omega), wrap64_id (a := -(2 * n)) (by omega) (by omega), wrap64_id (by omega) (by omega)]; congr 1; omega
  · rw [if_neg h, if_neg h, wrap64_id (by omega) (by omega)]
theorem refUnfold (n : Int) (h0 : 0 ≤ n) (h1 : n ≤ 2147483647) : plaitref03_Unfold.f n = some (unfold_ n) := by
  unfold plaitref03_Unfold.f unfold_
  rw [tmod_cases, tdiv_cases, tdiv_cases, if_pos h0, if_pos h0]
  by_cases h : n % 2 = 1
  · rw [if_pos h, if_pos h, wrap64_id (a := n + 1) (by omega) (by omega), if_pos (by omega), wrap64_id (a := (n + 1) / 2) (by omega) (by omega), wrap64_id (by omega) (by omega)]
  · rw [if_neg h, if_neg h, wrap64_id (by omega) (by omega)]
theorem unfold_fold (n : Int) : unfold_ (fold n) = n := by
  unfold unfold_ fold; split <;> split <;> omega
theorem signed_of (k : Nat) (s : ByteArray) (a : Int) (v t e : Int) (h : varint_Get.f k s a = some (v, t, e)) (h0 : 0 ≤ v) (h1 : v ≤ 2147483647) : varint_Signed.f k s a = some (unfold_ v, t, e) := by
  unfold varint_Signed.f
  rw [h]
  simp only [Option.bind_some]
  have h2 := and_mask 1 (by decide) v h0 (by omega)
  rw [show (2 : Int) ^ 1 - 1 = 1 from rfl, show (2 : Int) ^ 1 = 2 from rfl] at h2
  rw [h2]
  congr 2
  unfold unfold_
  by_cases h3 : v % 2 = 1
  · rw [if_pos h3, h3, wrap64_id (by omega) (by omega), xor_ones _ (by omega) (by omega)]; omega
  · rw [if_neg h3, show v % 2 = 0 by omega, show wrap64 (-0) = 0 by rw [Int.neg_zero]; exact wrap64_id (by omega) (by omega), xor_zero _ (by omega) (by omega)]
theorem few3 (s : ByteArray) : plaitlaw03_few.f s = some (s.extract 0 (min s.size 200)) := by
  unfold plaitlaw03_few.f
  have e : mn (s.size : Int) 200 = ((min s.size 200 : Nat) : Int) := by unfold mn; split <;> omega
  rw [e, if_pos (by omega), if_pos (by omega)]
  rfl
theorem few3_size (s : ByteArray) : (s.extract 0 (min s.size 200)).size ≤ 200 := by
  rw [ByteArray.size_extract]; omega
theorem getS_five : getS ⟨#[5]⟩ 0 = (5, 1, 0) := by decide
theorem alive3 (k : Nat) (hk : 9 ≤ k) : plaitlaw03_alive.f k = some true := by
  unfold plaitlaw03_alive.f
  rw [small_in 300 (by omega) (by omega), signed_of k ⟨#[5]⟩ 0 5 1 0 (by
    have := get_in ⟨#[5]⟩ 0 (by decide) (by decide) k hk
    rw [getS_five] at this; exact this) (by omega) (by omega)]
  simp only [Option.bind_some]
  have e : putN (300 : Int).toNat = [172, 2] := by
    rw [show (300 : Int).toNat = 300 from rfl, putN_ge (by omega), putN_lt (by omega)]; rfl
  rw [e, show (strOfNums [172, 2]).toList = ([172, 2] : List UInt8) by rw [Go.Lib.strOfNums_toList]; rfl, show unfold_ 5 = -3 by decide]
  rfl
theorem toList_empty : (⟨#[]⟩ : ByteArray).toList = [] := by rw [Go.Lib.toList_data]
theorem getS_cases (s : ByteArray) (a : Nat) : ((getS s a).2.2 = 0 ∧ 0 ≤ (getS s a).1 ∧ (getS s a).1 ≤ 2147483647) ∨ ((getS s a).2.2 ≠ 0 ∧ (getS s a).1 = 0 ∧ (getS s a).2.1 = 0) := by
  have hr : ∀ x ∈ (nb s).drop a, 0 ≤ x ∧ x < 256 := fun x hx => nb_range s x (List.mem_of_mem_drop hx)
  by_cases h : (getL ((nb s).drop a)).2.2 = 0
  · have := getL_ok _ hr h
    exact .inl ⟨h, this.2.2.2.2.2⟩
  · refine .inr ⟨h, ?_, by simp [getS, h]⟩
    show (getL ((nb s).drop a)).1 = 0
    unfold getL at h ⊢
    split
    · rfl
    · split
      · rfl
      · split
        · rfl
        · split
          · rfl
          · rename_i h1 h2 h3 h4
            rw [if_neg h1, if_neg h2, if_neg h3, if_neg h4] at h
            exact absurd rfl h
end Go.Proofs.Ytipmoncamnafbaa.Pure
