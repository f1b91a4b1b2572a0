/- Plain lemmas on package vclock: joining, order, trimming. -/
import Derived.Test.YtipmoncamnafbaaPl3
import Derived.Test.YtipmoncamnafbaaPl6
import Derived.Test.YtipmoncamnafbaaX17
import Derived.Test.YtipmoncamnafbaaX20
set_option linter.unusedVariables false
set_option linter.unusedSimpArgs false
namespace Go.Proofs.Ytipmoncamnafbaa.Pure
open Go.RowKit Go.Proofs.Ytipmoncamnafbaa.X Go.Proofs.YtipmoncamnafbaaW.PrintWords Go.Proofs.YtipmoncamnafbaaW.PrintLast Go.Proofs.YtipmoncamnafbaaW.PrintMore

theorem mx_max (a b : Int) : mx a b = max a b := by unfold mx; split <;> omega
/-- the join -/
def jT (a b : List Int) : List Int := vtrim (jl (whole a) b b.length)
theorem jT_getD (a b : List Int) (ha : vok a = true) (hb : vok b = true) (i : Nat) : (jT a b).getD i 0 = max (a.getD i 0) (b.getD i 0) := by
  have hbl := (vok_iff.1 hb).1
  have hal := (vok_iff.1 ha).1
  have ga := vok_getD ha i
  have gb := vok_getD hb i
  rw [jT, vtrim_getD]
  by_cases hi : i < 16
  · have := jl_get (whole a) b b.length i hi
    have e : (jl (whole a) b b.length).getD i 0 = if i < b.length then mx ((whole a).getD i 0) (b.getD i 0) else (whole a).getD i 0 := by
      rw [List.getD_eq_getElem?_getD, this]; rfl
    rw [e, whole_getD, mx_max]
    split
    · rfl
    · have : b.getD i 0 = 0 := by
        simp only [List.getD_eq_getElem?_getD]; rw [List.getElem?_eq_none (by omega)]; rfl
      rw [this]; omega
  · have e1 : a.getD i 0 = 0 := by
      simp only [List.getD_eq_getElem?_getD]; rw [List.getElem?_eq_none (by omega)]; rfl
    have e2 : b.getD i 0 = 0 := by
      simp only [List.getD_eq_getElem?_getD]; rw [List.getElem?_eq_none (by omega)]; rfl
    have e3 : (jl (whole a) b b.length).getD i 0 = 0 := by
      simp only [List.getD_eq_getElem?_getD]; rw [List.getElem?_eq_none (by rw [jl_len]; omega)]; rfl
    rw [e1, e2, e3]; rfl
theorem all_of_getD (l : List Int) (h : ∀ i, i < l.length → 0 ≤ l.getD i 0 ∧ l.getD i 0 ≤ 1099511627776) : l.all tickOk = true := by
  rw [List.all_eq_true]
  intro x hx
  obtain ⟨i, hi, rfl⟩ := List.getElem_of_mem hx
  have := h i hi
  rw [tick_iff]
  simpa [hi] using this
theorem jT_ok (a b : List Int) (ha : vok a = true) (hb : vok b = true) : vok (jT a b) = true := by
  rw [vok_iff]
  constructor
  · have := vtrim_len (jl (whole a) b b.length)
    rw [jl_len] at this
    exact this
  · apply all_of_getD
    intro i _
    rw [jT_getD a b ha hb]
    have ga := vok_getD ha i
    have gb := vok_getD hb i
    omega
theorem jT_trim (a b : List Int) : vtrim (jT a b) = jT a b := vtrim_idem _
theorem join_ok (a b : List Int) (ha : vok a = true) (hb : vok b = true) : vclock_Join.f a b = some (jT a b, 0) := by
  unfold vclock_Join.f; rw [ha, hb]; rfl
theorem join_no (a b : List Int) (h : ¬ (vok a = true ∧ vok b = true)) : vclock_Join.f a b = some ([], 1) := by
  unfold vclock_Join.f; rw [if_neg (by simpa using h)]
def leqP (a b : List Int) : Prop := ∀ i, a.getD i 0 ≤ b.getD i 0
theorem leqB_iff (a b : List Int) (ha : vok a = true) (hb : vok b = true) : leqB a (whole b) a.length = true ↔ leqP a b := by
  rw [leqB, List.all_eq_true]
  constructor
  · intro h i
    by_cases hi : i < a.length
    · have := h i (List.mem_range.2 hi)
      rw [whole_getD] at this
      simpa using this
    · have e1 : a.getD i 0 = 0 := by
        simp only [List.getD_eq_getElem?_getD]; rw [List.getElem?_eq_none (by omega)]; rfl
      have := vok_getD hb i
      omega
  · intro h i hi
    rw [whole_getD]
    simpa using h i
open Classical in
theorem leq_ok (a b : List Int) (ha : vok a = true) (hb : vok b = true) : vclock_Leq.f a b = some (decide (leqP a b), 0) := by
  unfold vclock_Leq.f
  rw [ha, hb]
  simp only [Bool.and_self, if_true]
  congr 2
  rw [Bool.eq_iff_iff, leqB_iff a b ha hb]; simp
theorem leq_no (a b : List Int) (h : ¬ (vok a = true ∧ vok b = true)) : vclock_Leq.f a b = some (false, 1) := by
  unfold vclock_Leq.f; rw [if_neg (by simpa using h)]
theorem trim_ok (a : List Int) (ha : vok a = true) : vclock_Trim.f a = some (vtrim a, 0) := by
  unfold vclock_Trim.f
  rw [if_pos ha]
  have : vtrim (whole a) = vtrim a := vtrim_ext _ _ (fun i => whole_getD a i)
  rw [this]
theorem trim_no (a : List Int) (ha : ¬ vok a = true) : vclock_Trim.f a = some ([], 1) := by
  unfold vclock_Trim.f; rw [if_neg ha]
theorem few1 (l : List Int) : plaitlaw01_few.f l = some (l.take 20) := by
  unfold plaitlaw01_few.f
  rw [mn20, if_pos (by omega), if_pos (by omega)]
  congr 1
  rw [Int.toNat_natCast]
  by_cases h : l.length ≤ 20
  · rw [Nat.min_eq_left h, List.take_of_length_le (Nat.le_refl _), List.take_of_length_le h]
  · rw [Nat.min_eq_right (by omega)]
theorem alive1 (k : Nat) (hk : 9 ≤ k) : plaitlaw01_alive.f k = some true := by
  unfold plaitlaw01_alive.f
  have e : vclock_Join.f ([1, 0, 3] : List Int) ([0, 2] : List Int) = some ([1, 2, 3], 0) := by decide
  rw [e]
  simp only [Option.bind_some, if_true]
  rw [rows_self [1, 2, 3] k (by simp; omega) (by simp)]; rfl
theorem vok_len {l : List Int} (h : vok l = true) : l.length ≤ 16 := (vok_iff.1 h).1
theorem vtrim_eq_iff (a b : List Int) (ha : vok a = true) (hb : vok b = true) : vtrim a = vtrim b ↔ leqP a b ∧ leqP b a := by
  constructor
  · intro h
    have : ∀ i, a.getD i 0 = b.getD i 0 := fun i => by rw [← vtrim_getD a, h, vtrim_getD]
    exact ⟨fun i => by rw [this i]; exact Int.le_refl _, fun i => by rw [this i]; exact Int.le_refl _⟩
  · intro h
    exact vtrim_ext _ _ (fun i => Int.le_antisymm (h.1 i) (h.2 i))
theorem rows_ne_len (l m : List Int) (k : Nat) (h : l.length ≠ m.length) : plaitref01_Rows.f k l m = some false := by
  unfold plaitref01_Rows.f; rw [if_neg (by omega)]
theorem rows_l0' (l m : List Int) (hl : l.length = m.length) (hlen : l.length ≤ 1000000) (d : Nat) : ∀ k i, d < k → i + d = l.length → plaitref01_Rows.l0 k l m (l.length : Int) i = some (decide (l.drop i = m.drop i)) := by
  induction d with
  | zero =>
    intro k i hk hi
    obtain ⟨k, rfl⟩ : ∃ m, k = m + 1 := ⟨k - 1, by omega⟩
    rw [plaitref01_Rows.l0, if_neg (by omega), List.drop_eq_nil_of_le (by omega), List.drop_eq_nil_of_le (by omega)]
    simp
  | succ d ih =>
    intro k i hk hi
    obtain ⟨k, rfl⟩ : ∃ m, k = m + 1 := ⟨k - 1, by omega⟩
    have e1 : rd l (i : Int) = l[i] := by rw [rd_nat3]; simp [show i < l.length by omega]
    have e2 : rd m (i : Int) = m[i] := by rw [rd_nat3]; simp [show i < m.length by omega]
    rw [plaitref01_Rows.l0, if_pos (by omega), if_pos (by omega), if_pos (by omega), if_pos (by omega), e1, e2, wrap64_id (by omega) (by omega)]
    have hd : (l.drop i = m.drop i) ↔ (l[i] = m[i] ∧ l.drop (i + 1) = m.drop (i + 1)) := by
      rw [List.drop_eq_getElem_cons (by omega : i < l.length), List.drop_eq_getElem_cons (by omega : i < m.length)]
      exact List.cons_eq_cons
    by_cases h : l[i] = m[i]
    · rw [if_pos h]
      have := ih k (i + 1) (by omega) (by omega)
      rw [show ((i : Int) + 1) = ((i + 1 : Nat) : Int) by omega, this]
      simp only [hd, h, true_and]
    · rw [if_neg h]; simp only [hd, h, false_and, decide_false]
theorem rows_dec (l m : List Int) (k : Nat) (hk : l.length < k) (hlen : l.length ≤ 1000000) : plaitref01_Rows.f k l m = some (decide (l = m)) := by
  unfold plaitref01_Rows.f
  by_cases h : l.length = m.length
  · rw [if_pos (by omega)]
    have := rows_l0' l m h hlen l.length k 0 hk (by omega)
    simpa using this
  · rw [if_neg (by omega)]
    have : l ≠ m := fun e => h (by rw [e])
    simp [this]

/-! the reference -/
theorem fmx_nonneg (l : List Int) : 0 ≤ fmx l := by
  induction l using snoc_ind with
  | h0 => simp [fmx]
  | h1 l x ih => rw [fmx_snoc, mx_max]; omega
theorem fmx_zero_snoc (l : List Int) : fmx (l ++ [0]) = fmx l := by
  rw [fmx_snoc, mx_max]; have := fmx_nonneg l; omega
theorem ptrK_vtrim (l : List Int) (h : ∀ i, 0 ≤ l.getD i 0) : ptrK l l.length = vtrim l := by
  induction l using snoc_ind with
  | h0 => rfl
  | h1 l x ih =>
    have hx : 0 ≤ x := by have := h l.length; simpa using this
    have hl : ∀ i, 0 ≤ l.getD i 0 := by
      intro i
      by_cases hi : i < l.length
      · have := h i; simpa [List.getElem?_append, hi] using this
      · simp only [List.getD_eq_getElem?_getD]; rw [List.getElem?_eq_none (by omega)]; simp
    have hk : ∀ k, k ≤ l.length → (x = 0 → ptrK (l ++ [x]) k = ptrK l k) ∧ (x ≠ 0 → ptrK (l ++ [x]) k = l.take k) := by
      intro k
      induction k with
      | zero => intro _; exact ⟨fun _ => rfl, fun _ => rfl⟩
      | succ k ihk =>
        intro hkl
        obtain ⟨i1, i2⟩ := ihk (by omega)
        have hd : (l ++ [x]).drop k = l.drop k ++ [x] := by rw [List.drop_append_of_le_length (by omega)]
        have hg : (l ++ [x]).getD k 0 = l.getD k 0 := by simp [List.getElem?_append, show k < l.length by omega]
        constructor
        · intro h0
          rw [ptrK_succ, ptrK_succ, i1 h0, hd, hg, h0, fmx_zero_snoc]
        · intro h0
          rw [ptrK_succ, i2 h0, hd, hg, if_pos (by rw [fmx_snoc, mx_max]; omega), take_snoc l k (by omega)]
    rw [List.length_append, List.length_singleton, ptrK_succ, vtrim_snoc]
    obtain ⟨i1, i2⟩ := hk l.length (Nat.le_refl _)
    have hd : (l ++ [x]).drop l.length = [x] := by simp
    rw [hd]
    by_cases h0 : x = 0
    · rw [if_pos h0, i1 h0, ih hl, h0]; simp [fmx, mx]
    · rw [if_neg h0, i2 h0, if_pos (by simp [fmx, mx_max]; omega)]
      simp
theorem refTrim (l : List Int) (hl : l.length ≤ 1000) (h : ∀ i, 0 ≤ l.getD i 0) : plaitref01_Trim.f l = some (vtrim l) := by
  unfold plaitref01_Trim.f; rw [if_pos hl, ptrK_vtrim l h]
theorem refJoin_l0 (a b : List Int) (ha : vok a = true) (hb : vok b = true) (d : Nat) : ∀ k i out, d < k → i + d = 16 → out.length = i → (∀ j, j < i → out.getD j 0 = max (a.getD j 0) (b.getD j 0)) →
    plaitref01_Join.l0 k a b out i = some (jT a b) := by
  induction d with
  | zero =>
    intro k i out hk hi ho hj
    obtain ⟨k, rfl⟩ : ∃ m, k = m + 1 := ⟨k - 1, by omega⟩
    have hg : ∀ j, out.getD j 0 = (jT a b).getD j 0 := by
      intro j
      rw [jT_getD a b ha hb]
      by_cases h : j < 16
      · exact hj j (by omega)
      · have z : ∀ l : List Int, l.length ≤ 16 → l.getD j 0 = 0 := by
          intro l hl
          simp only [List.getD_eq_getElem?_getD]; rw [List.getElem?_eq_none (by omega)]; rfl
        rw [z out (by omega), z a (vok_len ha), z b (vok_len hb)]; rfl
    have e : vtrim out = jT a b := by rw [vtrim_ext _ _ hg, jT_trim]
    rw [plaitref01_Join.l0, if_neg (by omega), refTrim out (by omega) (fun j => by
      rw [hg j]; have := vok_getD (jT_ok a b ha hb) j; omega), e]
    rfl
  | succ d ih =>
    intro k i out hk hi ho hj
    obtain ⟨k, rfl⟩ : ∃ m, k = m + 1 := ⟨k - 1, by omega⟩
    rw [plaitref01_Join.l0, if_pos (by omega), refAt a i (by omega), refAt b i (by omega)]
    simp only [Option.bind_some]
    rw [if_pos (by omega), wrap64_id (by omega) (by omega), mx_max, Int.toNat_natCast]
    refine ih k (i + 1) _ (by omega) (by omega) (by simp; omega) ?_
    intro j h
    by_cases hji : j < i
    · rw [← hj j hji]; simp [List.getElem?_append, show j < out.length by omega]
    · have : j = i := by omega
      subst this; subst ho; simp
theorem refJoin (a b : List Int) (ha : vok a = true) (hb : vok b = true) (k : Nat) (hk : 16 < k) : plaitref01_Join.f k a b = some (jT a b) :=
  refJoin_l0 a b ha hb 16 k 0 [] hk (by omega) rfl (by intro j h; omega)
theorem refLeq_l0 (a b : List Int) (ha : vok a = true) (hb : vok b = true) (d : Nat) : ∀ k i, d < k → i + d = 16 → (∀ j, j < i → a.getD j 0 ≤ b.getD j 0) →
    plaitref01_Leq.l0 k a b i = some (leqB a (whole b) a.length) := by
  induction d with
  | zero =>
    intro k i hk hi hj
    obtain ⟨k, rfl⟩ : ∃ m, k = m + 1 := ⟨k - 1, by omega⟩
    rw [plaitref01_Leq.l0, if_neg (by omega)]
    congr 1
    symm
    rw [leqB_iff a b ha hb]
    intro j
    by_cases h : j < 16
    · exact hj j (by omega)
    · have z : ∀ l : List Int, l.length ≤ 16 → l.getD j 0 = 0 := by
        intro l hl
        simp only [List.getD_eq_getElem?_getD]; rw [List.getElem?_eq_none (by omega)]; rfl
      rw [z a (vok_len ha), z b (vok_len hb)]; exact Int.le_refl _
  | succ d ih =>
    intro k i hk hi hj
    obtain ⟨k, rfl⟩ : ∃ m, k = m + 1 := ⟨k - 1, by omega⟩
    rw [plaitref01_Leq.l0, if_pos (by omega), refAt a i (by omega), refAt b i (by omega)]
    simp only [Option.bind_some]
    rw [wrap64_id (by omega) (by omega), Int.toNat_natCast]
    by_cases h : a.getD i 0 > b.getD i 0
    · rw [if_pos h]
      congr 1
      symm
      rw [Bool.eq_false_iff]
      intro h2
      have := (leqB_iff a b ha hb).1 h2 i
      omega
    · rw [if_neg h]
      exact ih k (i + 1) (by omega) (by omega) (fun j hj' => by
        by_cases hji : j < i
        · exact hj j hji
        · have : j = i := by omega
          subst this; omega)
theorem refLeq (a b : List Int) (ha : vok a = true) (hb : vok b = true) (k : Nat) (hk : 16 < k) : plaitref01_Leq.f k a b = some (leqB a (whole b) a.length) :=
  refLeq_l0 a b ha hb 16 k 0 hk (by omega) (by intro j h; omega)
theorem refTick_l0 (a : List Int) (g : Nat) (hg : g < 16) (ha : vok a = true) (d : Nat) : ∀ k i out, d < k → i + d = 16 → out.length = i → (∀ j, j < i → out.getD j 0 = ((whole a).set g (a.getD g 0 + 1)).getD j 0) →
    plaitref01_Tick.l0 k a g out i = some (vtrim ((whole a).set g (a.getD g 0 + 1))) := by
  have hwl : (whole a).length = 16 := by have := vok_len ha; simp [whole]; omega
  induction d with
  | zero =>
    intro k i out hk hi ho hj
    obtain ⟨k, rfl⟩ : ∃ m, k = m + 1 := ⟨k - 1, by omega⟩
    have hgd : ∀ j, out.getD j 0 = ((whole a).set g (a.getD g 0 + 1)).getD j 0 := by
      intro j
      by_cases h : j < 16
      · exact hj j (by omega)
      · have z : ∀ l : List Int, l.length ≤ 16 → l.getD j 0 = 0 := by
          intro l hl
          simp only [List.getD_eq_getElem?_getD]; rw [List.getElem?_eq_none (by omega)]; rfl
        rw [z out (by omega), z _ (by rw [List.length_set]; omega)]
    rw [plaitref01_Tick.l0, if_neg (by omega), refTrim out (by omega) (fun j => by
      rw [hgd j, set_getD _ _ _ _ (by omega), whole_getD]
      have h1 := vok_getD ha g
      have h2 := vok_getD ha j
      split <;> omega), vtrim_ext _ _ hgd]
    rfl
  | succ d ih =>
    intro k i out hk hi ho hj
    obtain ⟨k, rfl⟩ : ∃ m, k = m + 1 := ⟨k - 1, by omega⟩
    have hv := vok_getD ha i
    rw [plaitref01_Tick.l0, if_pos (by omega), refAt a i (by omega), Int.toNat_natCast]
    simp only [Option.bind_some]
    have key : ∀ x, x = ((whole a).set g (a.getD g 0 + 1)).getD i 0 → plaitref01_Tick.l0 k a g (out ++ [x]) (wrap64 ((i : Int) + 1)) = some (vtrim ((whole a).set g (a.getD g 0 + 1))) := by
      intro x hx
      rw [wrap64_id (by omega) (by omega)]
      refine ih k (i + 1) _ (by omega) (by omega) (by simp; omega) ?_
      intro j h
      by_cases hji : j < i
      · rw [← hj j hji]; simp [List.getElem?_append, show j < out.length by omega]
      · have : j = i := by omega
        subst this; rw [← hx]; subst ho; simp
    by_cases h : (i : Int) = g
    · rw [if_pos h, if_pos (by omega)]
      apply key
      have : i = g := by omega
      subst this
      rw [set_getD _ _ _ _ (by omega), if_pos rfl, wrap64_id (by omega) (by omega)]
    · rw [if_neg h, if_pos (by omega)]
      apply key
      rw [set_getD _ _ _ _ (by omega), if_neg (by omega), whole_getD]
theorem refTick (a : List Int) (g : Nat) (hg : g < 16) (ha : vok a = true) (k : Nat) (hk : 16 < k) : plaitref01_Tick.f k a g = some (vtrim ((whole a).set g (a.getD g 0 + 1))) :=
  refTick_l0 a g hg ha 16 k 0 [] hk (by omega) rfl (by intro j h; omega)
end Go.Proofs.Ytipmoncamnafbaa.Pure
