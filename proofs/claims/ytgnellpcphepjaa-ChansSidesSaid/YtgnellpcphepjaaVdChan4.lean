/- Plain laws of chans, more: the references of Right, Send, Recv. -/
import Derived.Test.YtgnellpcphepjaaVdChan3
set_option linter.unusedVariables false
set_option linter.unusedSimpArgs false
namespace Go.Proofs.Ytgnellpcphepjaa.VX.VxD_C
open Go.Proofs
theorem rnumbers_eq (r : Rg) (hr : rOK r) (a b : Int) (ha : 0 ≤ a ∧ a ≤ 1048576) (hb : a ≤ b ∧ b ≤ 1048576) : F_plaitref09_numbers (r, a, b) = some (decide (rItems r = seqI a (rItems r).length ∧ ((rItems r).length : Int) = b - a)) := by
  have hil := items_len r
  have hl : (rItems r).length ≤ 8 := by obtain ⟨_, _, _, _, _, _⟩ := hr; omega
  unfold F_plaitref09_numbers
  simp only
  rw [refItems_eq hr]
  simp only [Option.bind_some]
  generalize rItems r = l at *
  have := loop_find (f := L_plaitref09_numbers_4) ((List.range l.length).map fun k => decide (l.getD k 0 ≠ a + (k : Int))) (fun b => b) (fun k => (a, b, l, l, (l.length : Int), (k : Int))) (fun _ => .inl false) (.inr (a, b, l)) (by
    intro k hk
    have hk' : k < l.length := by simpa using hk
    unfold L_plaitref09_numbers_4
    simp only
    rw [bif_t (by simpa using hk'), bif_t (inb_nat hk'), toN_nat, getAtL _ hk', wrapI (n := a + (k : Int)) (by omega) (by omega), wrapI (n := (k : Int) + 1) (by omega) (by omega)]
    have hd : l.getD k 0 = l[k] := by simp [List.getD, hk']
    rw [List.getElem_map, List.getElem_range, hd]
    by_cases h : l[k] = a + (k : Int)
    · rw [bif_f (by simp [h]), if_neg (by simp [h])]; rfl
    · rw [bif_t (by simp [h]), if_pos (by simp [h])]) (by
    unfold L_plaitref09_numbers_4
    simp only [List.length_map, List.length_range]
    rw [bif_f (by simp)])
  rw [show loop L_plaitref09_numbers_4 (a, b, l, l, (l.length : Int), (0 : Int)) = _ from this]
  cases hf : ((List.range l.length).map fun k => decide (l.getD k 0 ≠ a + (k : Int))).findIdx? (fun b => b) with
  | none =>
    rw [List.findIdx?_eq_none_iff] at hf
    have hs : l = seqI a l.length := seq_iff.2 (fun k hk => by
      have := hf (decide (l.getD k 0 ≠ a + (k : Int))) (List.mem_map.2 ⟨k, List.mem_range.2 hk, rfl⟩)
      have hd : l.getD k 0 = l[k] := by simp [List.getD, hk]
      rw [hd] at this
      simpa using this)
    simp only [Option.bind_some]
    rw [wrapI (by omega) (by omega)]
    by_cases h : (l.length : Int) = b - a
    · rw [decide_eq_true ⟨hs, h⟩, beq_iff_eq.2 h]
    · rw [decide_eq_false (fun e => h e.2), beq_eq_false_iff_ne.2 h]
  | some i =>
    obtain ⟨hi, hp, _⟩ := List.findIdx?_eq_some_iff_getElem.1 hf
    have hi' : i < l.length := by simpa using hi
    refine decF (fun e => ?_)
    have hd : l.getD i 0 = l[i] := by simp [List.getD, hi']
    rw [List.getElem_map, List.getElem_range, hd] at hp
    have := seq_iff.1 e.1 i hi'
    simp [this] at hp
theorem both0 (m n : Nat) (hm : m ≤ 70) (hn : n ≤ 70) : (IntKind.wrap .i64 ((m : Int) + (n : Int)) == 0) = (decide (m = 0) && decide (n = 0)) := by
  rw [wrapI (by omega) (by omega), beqI]
  by_cases h1 : m = 0 <;> by_cases h2 : n = 0 <;> simp [h1, h2] <;> omega
theorem both1 (m n : Nat) (hm : m ≤ 70) (hn : n ≤ 70) : decide (IntKind.wrap .i64 ((m : Int) + (n : Int)) > 0) = !(decide (m = 0) && decide (n = 0)) := by
  rw [wrapI (by omega) (by omega)]
  by_cases h1 : m = 0 <;> by_cases h2 : n = 0 <;> simp [h1, h2] <;> omega
theorem len0 (m : Nat) : ((m : Int) == 0) = decide (m = 0) := by
  rw [beqI]
  by_cases h1 : m = 0 <;> simp [h1]
theorem rRight_eq (c : Ch) (h1 : c.2.2.2.2.2.1.length ≤ 70) (h2 : c.2.2.2.2.2.2.length ≤ 70) : F_plaitref09_Right c = some (decide (chOK c)) := by
  unfold F_plaitref09_Right chOK
  rw [neg1]
  by_cases a2 : c.1 < -1
  · rw [bif_t (decide_eq_true a2)]; exact decF (by omega)
  rw [bif_f (decide_eq_false a2)]
  by_cases a3 : c.1 > 3
  · rw [bif_t (decide_eq_true a3)]; exact decF (by omega)
  rw [bif_f (decide_eq_false a3), rRefRight_eq]
  simp only [Option.bind_some]
  rcases (Classical.em (rOK c.2.2.1)).symm with a1 | a1
  · rw [bif_t (by simpa using a1)]; exact decF (fun h => a1 h.1)
  rw [bif_f (by simpa using a1)]
  rcases (Classical.em (c.2.2.1.1 = max c.1 0)).symm with a4 | a4
  · rw [bif_t (by simpa using a4)]; exact decF (fun h => a4 h.2.2.2.1)
  rw [bif_f (by simpa using a4), refRight_eq _ (by omega)]
  simp only [Option.bind_some]
  rcases (Classical.em (wOK c.2.2.2.2.2.1)).symm with a5 | a5
  · rw [bif_t (by simpa using a5)]; exact decF (fun h => a5 h.2.2.2.2.1)
  rw [bif_f (by simpa using a5), refRight_eq _ (by omega)]
  simp only [Option.bind_some]
  rcases (Classical.em (wOK c.2.2.2.2.2.2)).symm with a6 | a6
  · rw [bif_t (by simpa using a6)]; exact decF (fun h => a6 h.2.2.2.2.2.1)
  rw [bif_f (by simpa using a6)]
  by_cases a7 : c.2.2.2.1 < 0
  · rw [bif_t (decide_eq_true a7)]; exact decF (by omega)
  rw [bif_f (decide_eq_false a7)]
  by_cases a8 : c.2.2.2.1 > 1048576
  · rw [bif_t (decide_eq_true a8)]; exact decF (by omega)
  rw [bif_f (decide_eq_false a8)]
  by_cases a9 : c.2.2.2.2.1 < 0
  · rw [bif_t (decide_eq_true a9)]; exact decF (by omega)
  rw [bif_f (decide_eq_false a9)]
  by_cases a10 : c.2.2.2.2.1 > c.2.2.2.1
  · rw [bif_t (decide_eq_true a10)]; exact decF (by omega)
  rw [bif_f (decide_eq_false a10), rnumbers_eq _ a1 _ _ (by omega) (by omega)]
  simp only [Option.bind_some]
  rcases (Classical.em (rItems c.2.2.1 = seqI c.2.2.2.2.1 (rItems c.2.2.1).length ∧ ((rItems c.2.2.1).length : Int) = c.2.2.2.1 - c.2.2.2.2.1)).symm with a11 | a11
  · rw [bif_t (by rw [decide_eq_false a11]; rfl)]; exact decF (fun h => a11 h.2.2.2.2.2.2.2.2.2.2.1)
  rw [bif_f (by simpa using a11)]
  have done : ∀ {b : Option Bool}, (b = some (decide (sidesOK c))) → b = some (decide (rOK c.2.2.1 ∧ -1 ≤ c.1 ∧ c.1 ≤ 3 ∧ c.2.2.1.1 = max c.1 0 ∧ wOK c.2.2.2.2.2.1 ∧ wOK c.2.2.2.2.2.2 ∧ 0 ≤ c.2.2.2.1 ∧ c.2.2.2.1 ≤ 1048576 ∧ 0 ≤ c.2.2.2.2.1 ∧ c.2.2.2.2.1 ≤ c.2.2.2.1 ∧
      (rItems c.2.2.1 = seqI c.2.2.2.2.1 (rItems c.2.2.1).length ∧ ((rItems c.2.2.1).length : Int) = c.2.2.2.1 - c.2.2.2.2.1) ∧ sidesOK c)) := by
    intro b hb
    rw [hb]
    exact decE ⟨fun h => ⟨a1, by omega, by omega, a4, a5, a6, by omega, by omega, by omega, by omega, a11, h⟩, fun h => h.2.2.2.2.2.2.2.2.2.2.2⟩
  refine done ?_
  rw [both0 _ _ h1 h2, both1 _ _ h1 h2, len0, len0]
  unfold sidesOK
  have e5 : (c.2.2.1.2.2.2 == c.1) = decide (c.2.2.1.2.2.2 = c.1) := beqI _ _
  have e6 : (c.2.2.1.2.2.2 == 0) = decide (c.2.2.1.2.2.2 = 0) := beqI _ _
  by_cases b1 : c.1 < 0
  · rw [bif_t (by simp; omega)]
    simp only [if_pos b1]
    cases c.2.1 with
    | true => rfl
    | false =>
      by_cases b2 : c.2.2.2.1 = 0
      · rw [Bool.not_false, cond_true, bif_t (by simpa using b2)]
        by_cases b3 : c.2.2.2.2.2.1.length = 0 <;> by_cases b4 : c.2.2.2.2.2.2.length = 0 <;> simp [b2, b3, b4]
      · rw [Bool.not_false, cond_true, bif_f (by simpa using b2)]; exact decF (fun h => b2 h.2.1)
  · rw [bif_f (by simp; omega)]
    simp only [if_neg b1]
    cases c.2.1 with
    | true =>
      simp only [if_true, cond_true, Bool.decide_and, e5, e6]
      generalize decide (c.2.2.2.2.2.1.length = 0) = x1
      generalize decide (c.2.2.2.2.2.2.length = 0) = x2
      generalize decide (c.2.2.1.2.2.2 = c.1) = x3
      generalize decide (c.2.2.1.2.2.2 = 0) = x4
      cases x1 <;> cases x2 <;> cases x3 <;> cases x4 <;> rfl
    | false =>
      simp only [Bool.false_eq_true, if_false, cond_false, Bool.decide_and, Bool.decide_or, e5, e6]
      generalize decide (c.2.2.2.2.2.1.length = 0) = x1
      generalize decide (c.2.2.2.2.2.2.length = 0) = x2
      generalize decide (c.2.2.1.2.2.2 = c.1) = x3
      generalize decide (c.2.2.1.2.2.2 = 0) = x4
      cases x1 <;> cases x2 <;> cases x3 <;> cases x4 <;> rfl
def ofR (n a b : Int) : Rg := (n, 0, (List.range n.toNat).map (fun (i : Nat) => if a + (i : Int) < b then a + (i : Int) else 0), b - a)
theorem of_eq (n a b : Int) (hn : 0 ≤ n ∧ n ≤ 3) (ha : 0 ≤ a ∧ a ≤ 1048577) (hb : a ≤ b ∧ b ≤ 1048577) (hd : b - a ≤ n) : F_plaitref09_of (n, a, b) = some (ofR n a b) := by
  have := loop_count (f := L_plaitref09_of_4) n.toNat (fun k => (n, a, b, (k : Int), 0, 0, 0, n, 0, min (k : Int) (b - a), (List.range k).map (fun (i : Nat) => if a + (i : Int) < b then a + (i : Int) else 0))) (0, 0, 0, n, 0, b - a, (List.range n.toNat).map (fun (i : Nat) => if a + (i : Int) < b then a + (i : Int) else 0)) (fun k hk => by
    unfold L_plaitref09_of_4
    simp only
    rw [bif_t (decide_eq_true (by omega)), wrapI (n := a + (k : Int)) (by omega) (by omega), wrapI (n := (k : Int) + 1) (by omega) (by omega), wrapI (n := min (k : Int) (b - a) + 1) (by omega) (by omega), List.range_succ, List.map_append]
    by_cases h : a + (k : Int) < b
    · rw [bif_t (decide_eq_true h), bif_t (fits_iff.2 (by simp; omega))]
      rw [show min (k : Int) (b - a) + 1 = min ((k + 1 : Nat) : Int) (b - a) by omega]
      simp [h]
    · rw [bif_f (decide_eq_false h), bif_t (fits_iff.2 (by simp; omega))]
      rw [show min (k : Int) (b - a) = min ((k + 1 : Nat) : Int) (b - a) by omega]
      simp [h]) (by
    unfold L_plaitref09_of_4
    simp only
    rw [bif_f (decide_eq_false (by omega)), show min ((n.toNat : Nat) : Int) (b - a) = b - a by omega]) 0 (Nat.zero_le _)
  have h0 : min ((0 : Nat) : Int) (b - a) = 0 := by omega
  rw [h0] at this
  unfold F_plaitref09_of
  rw [show loop L_plaitref09_of_4 (n, a, b, (0 : Int), (0 : Int), (0 : Int), (0 : Int), n, (0 : Int), (0 : Int), ([] : List Int)) = _ from this]
  rfl
theorem of_ok (n a b : Int) (hn : 0 ≤ n ∧ n ≤ 3) (hb : a ≤ b) (hd : b - a ≤ n) : rOK (ofR n a b) := ⟨hn.1, by show n ≤ 8; omega, by simp [ofR]; omega, by show 0 ≤ b - a; omega, hd, Int.le_refl _, by show 0 < max 1 n; omega⟩
theorem of_items (n a b : Int) (hn : 0 ≤ n ∧ n ≤ 3) (hb : a ≤ b) (hd : b - a ≤ n) : rItems (ofR n a b) = seqI a (b - a).toNat := by
  unfold rItems seqI
  refine List.map_congr_left fun i hi => ?_
  have hi : i < (b - a).toNat := List.mem_range.1 hi
  have hs : rSlot (ofR n a b) i = i := by
    show (0 + i) % n.toNat = i
    rw [Nat.zero_add, Nat.mod_eq_of_lt (by omega)]
  rw [hs]
  show ((List.range n.toNat).map _).getD i 0 = _
  have hin : i < n.toNat := by omega
  simp [List.getD, hin]
  omega
def moveC (c : Ch) (s g : Int) : Ch := (c.1, c.2.1, ofR (max c.1 0) (c.2.2.2.2.1 + g) (c.2.2.2.1 + s), c.2.2.2.1 + s, c.2.2.2.2.1 + g, c.2.2.2.2.2.1, c.2.2.2.2.2.2)
theorem move_eq (c : Ch) (s g : Int) (hs : 0 ≤ s ∧ s ≤ 1) (hg : 0 ≤ g ∧ g ≤ 1) (h3 : c.1 ≤ 3) (h1 : 0 ≤ c.2.2.2.2.1) (h2 : c.2.2.2.2.1 + g ≤ c.2.2.2.1 + s) (h4 : c.2.2.2.1 ≤ 1048576) (hd : c.2.2.2.1 + s - (c.2.2.2.2.1 + g) ≤ max c.1 0) : F_plaitref09_move (c, s, g) = some (moveC c s g) := by
  unfold F_plaitref09_move
  simp only
  rw [wrapI (by omega) (by omega), wrapI (by omega) (by omega), of_eq _ _ _ (by omega) (by omega) (by omega) hd]
  rfl
theorem seqI_snoc (a : Int) (n : Nat) : seqI a n ++ [a + (n : Int)] = seqI a (n + 1) := by
  unfold seqI
  rw [List.range_succ, List.map_append]; rfl
theorem seqI_cons (a : Int) (n : Nat) : seqI a (n + 1) = a :: seqI (a + 1) n := by
  unfold seqI
  rw [List.range_succ_eq_map, List.map_cons, List.map_map]
  congr 1
  · simp
  · refine List.map_congr_left fun i _ => ?_
    simp; omega
theorem cnt_of {c : Ch} (h : chOK c) : c.2.2.1.2.2.2 = c.2.2.2.1 - c.2.2.2.2.1 := by
  obtain ⟨a1, a2, a3, a4, a5, a6, a7, a8, a9, a10, a11, a12⟩ := h
  have := items_len c.2.2.1
  have := a11.2
  obtain ⟨_, _, _, _, _, _⟩ := a1; omega
theorem same_push {c : Ch} (h : chOK c) (hf : c.2.2.1.2.2.2 ≠ c.2.2.1.1) : SameC (pushC c) (moveC c 1 0) := by
  have hc := cnt_of h
  obtain ⟨a1, a2, a3, a4, a5, a6, a7, a8, a9, a10, a11, a12⟩ := h
  have hle := a1.2.2.2.2.1
  refine ⟨rfl, rfl, rfl, (Int.add_zero _).symm, rfl, rfl, pushed_ok a1 hf _, of_ok _ _ _ (by omega) (by omega) (by omega), a4, ?_⟩
  show rItems (pushed c.2.2.1 c.2.2.2.1) = rItems (ofR (max c.1 0) (c.2.2.2.2.1 + 0) (c.2.2.2.1 + 1))
  rw [pushed_items a1 hf, of_items _ _ _ (by omega) (by omega) (by omega), a11.1]
  generalize (rItems c.2.2.1).length = n at *
  have e1 : c.2.2.2.1 = c.2.2.2.2.1 + (n : Int) := by omega
  rw [e1, seqI_snoc, Int.add_zero]
  congr 1; omega
theorem same_pop {c : Ch} (h : chOK c) (hf : c.2.2.1.2.2.2 > 0) : SameC (popC c) (moveC c 0 1) ∧ first c.2.2.1 = c.2.2.2.2.1 := by
  have hc := cnt_of h
  obtain ⟨a1, a2, a3, a4, a5, a6, a7, a8, a9, a10, a11, a12⟩ := h
  have hle := a1.2.2.2.2.1
  have hp := popped_items a1 (by omega)
  have hk : ∃ m, (rItems c.2.2.1).length = m + 1 := ⟨(rItems c.2.2.1).length - 1, by omega⟩
  obtain ⟨m, hm⟩ := hk
  have h2 := a11.1
  rw [hm, seqI_cons, hp] at h2
  obtain ⟨h3, h4⟩ := List.cons.inj h2
  refine ⟨⟨rfl, rfl, (Int.add_zero _).symm, rfl, rfl, rfl, popped_ok a1 (by omega), of_ok _ _ _ (by omega) (by omega) (by omega), a4, ?_⟩, h3⟩
  show rItems (popped c.2.2.1) = rItems (ofR (max c.1 0) (c.2.2.2.2.1 + 1) (c.2.2.2.1 + 0))
  rw [h4, of_items _ _ _ (by omega) (by omega) (by omega)]
  congr 1; omega
theorem same_pass {c : Ch} (h : chOK c) (hf : c.2.2.1.2.2.2 = 0) : SameC (passC c) (moveC c 1 1) := by
  have hc := cnt_of h
  have hil := items_len c.2.2.1
  obtain ⟨a1, a2, a3, a4, a5, a6, a7, a8, a9, a10, a11, a12⟩ := h
  refine ⟨rfl, rfl, rfl, rfl, rfl, rfl, a1, of_ok _ _ _ (by omega) (by omega) (by omega), a4, ?_⟩
  show rItems c.2.2.1 = rItems (ofR (max c.1 0) (c.2.2.2.2.1 + 1) (c.2.2.2.1 + 1))
  rw [of_items _ _ _ (by omega) (by omega) (by omega), a11.1]
  have : (rItems c.2.2.1).length = 0 := by omega
  rw [this, show (c.2.2.2.1 + 1 - (c.2.2.2.2.1 + 1)).toNat = 0 by omega]; rfl
theorem same_poppush {c : Ch} (h : chOK c) (hf : c.2.2.1.2.2.2 > 0) : SameC (pushC (popC c)) (moveC c 1 1) := by
  have hc := cnt_of h
  obtain ⟨⟨s1, s2, s3, s4, s5, s6, s7, s8, s9, s10⟩, hfst⟩ := same_pop h hf
  have hle := h.1.2.2.2.2.1
  obtain ⟨a1, a2, a3, a4, a5, a6, a7, a8, a9, a10, a11, a12⟩ := h
  have hn : (popped c.2.2.1).2.2.2 ≠ (popped c.2.2.1).1 := by show c.2.2.1.2.2.2 - 1 ≠ c.2.2.1.1; omega
  refine ⟨rfl, rfl, rfl, rfl, rfl, rfl, pushed_ok s7 hn _, of_ok _ _ _ (by omega) (by omega) (by omega), a4, ?_⟩
  show rItems (pushed (popped c.2.2.1) c.2.2.2.1) = rItems (ofR (max c.1 0) (c.2.2.2.2.1 + 1) (c.2.2.2.1 + 1))
  have s10 : rItems (popped c.2.2.1) = rItems (ofR (max c.1 0) (c.2.2.2.2.1 + 1) (c.2.2.2.1 + 0)) := s10
  have s7 : rOK (popped c.2.2.1) := s7
  rw [pushed_items s7 hn, s10, of_items _ _ _ (by omega) (by omega) (by omega), of_items _ _ _ (by omega) (by omega) (by omega)]
  have e1 : c.2.2.2.1 = c.2.2.2.2.1 + 1 + ((c.2.2.2.1 + 0 - (c.2.2.2.2.1 + 1)).toNat : Int) := by omega
  rw [show [c.2.2.2.1] = [c.2.2.2.2.1 + 1 + ((c.2.2.2.1 + 0 - (c.2.2.2.2.1 + 1)).toNat : Int)] from by rw [← e1], seqI_snoc]
  congr 1; omega
theorem notSome {α : Type} {o : Option α} {i : α} (h : o = some i) : o ≠ none := by rw [h]; simp
theorem rsend_eq (c : Ch) (w : W) (h : chOK c) (hw : isW w) : ∃ x, F_plaitref09_Send (c, w) = some (x, (sendC c w).2.1, (sendC c w).2.2) ∧ ((sendC c w).2.2 = 0 → SameC (sendC c w).1 x) := by
  have l1 := len1 h
  have l2 := len2 h
  have hcnt := cnt_of h
  have hh := h
  obtain ⟨a1, a2, a3, a4, a5, a6, a7, a8, a9, a10, a11, a12⟩ := h
  have hle := a1.2.2.2.2.1
  unfold F_plaitref09_Send sendC F_plaitref09_nobody
  simp only [Option.bind_some]
  by_cases b1 : c.1 < 0
  · rw [if_pos b1]
    exact ⟨c, by rw [neg1, bif_t (by simp; omega)]; rfl, fun _ => SameC.refl a1⟩
  have hcap : c.2.2.1.1 = c.1 := by rw [a4]; omega
  rw [if_neg b1, neg1, bif_f (by simp; omega)]
  cases b2 : c.2.1 with
  | true => rw [if_pos rfl]; exact ⟨c, rfl, fun _ => SameC.refl a1⟩
  | false =>
    rw [if_neg (by simp), cond_false, refFirst_eq _ _ (by omega)]
    simp only [Option.bind_some]
    cases hf : c.2.2.2.2.2.2.findIdx? (notG w.1) with
    | some i =>
      obtain ⟨hi, _⟩ := List.findIdx?_eq_some_iff_getElem.1 hf
      have e0 : decide ((i : Int) ≥ 0) = true := by simp
      have e1 : decide ((i : Int) < 0) = false := by simp
      have hcnt0 : c.2.2.1.2.2.2 = 0 := by
        unfold sidesOK at a12
        rw [if_neg b1, b2, if_neg (by simp)] at a12
        rcases a12.2 with e | e
        · omega
        · exact e
      simp only [e0, e1, cond_true, cond_false]
      by_cases b4 : c.2.2.2.1 = 1048576
      · rw [bif_t (by simpa using b4), if_pos b4]
        exact ⟨_, rfl, fun e => by cases e⟩
      · have hg : getAt ((0 : Int), ((0 : Int), (0 : Int))) c.2.2.2.2.2.2 (toN (i : Int)) = c.2.2.2.2.2.2.getD i zeroW := getAt_eq _ _ _
        rw [bif_f (by simpa using b4), if_neg b4, bif_t (inb_nat hi), hg, rleave_eq _ _ (by omega) (by omega)]
        simp only [Option.bind_some]
        rw [move_eq (leaveC c (c.2.2.2.2.2.2.getD i zeroW).1) 1 1 (by omega) (by omega) a3 a9 (show c.2.2.2.2.1 + 1 ≤ c.2.2.2.1 + 1 by omega) a8 (show c.2.2.2.1 + 1 - (c.2.2.2.2.1 + 1) ≤ max c.1 0 by omega)]
        exact ⟨_, rfl, fun _ => same_pass (leave_ok hh _) hcnt0⟩
    | none =>
      have e0 : decide (Int.negSucc 0 ≥ 0) = false := rfl
      have e1 : decide (Int.negSucc 0 < 0) = true := rfl
      simp only [e0, e1, cond_true, cond_false]
      by_cases b3 : c.2.2.1.2.2.2 = c.2.2.1.1
      · rw [if_pos b3, bif_f (decide_eq_false (by omega)), rpushW_eq _ _ l1]
        simp only [Option.bind_some]
        unfold outS
        by_cases b4 : (pushW c.2.2.2.2.2.1 w).2 = 0
        · rw [bif_f (by simpa using b4), if_pos b4]
          exact ⟨_, rfl, fun _ => ⟨rfl, b2, rfl, rfl, rfl, rfl, a1, a1, rfl, rfl⟩⟩
        · rw [bif_t (by simpa using b4), if_neg b4]
          exact ⟨_, rfl, fun e => absurd e b4⟩
      · rw [if_neg b3, bif_t (decide_eq_true (by omega))]
        by_cases b4 : c.2.2.2.1 = 1048576
        · rw [bif_t (by simpa using b4), if_pos b4]
          exact ⟨_, rfl, fun e => by cases e⟩
        · rw [bif_f (by simpa using b4), if_neg b4, move_eq c 1 0 (by omega) (by omega) a3 a9 (by omega) a8 (by omega)]
          exact ⟨_, rfl, fun _ => same_push hh b3⟩
theorem rrecv_eq (c : Ch) (w : W) (h : chOK c) (hw : isW w) : ∃ x, F_plaitref09_Recv (c, w) = some (x, (recvC c w).2.1, (recvC c w).2.2) ∧ ((recvC c w).2.2 = 0 → SameC (recvC c w).1 x) := by
  have l1 := len1 h
  have l2 := len2 h
  have hcnt := cnt_of h
  have hh := h
  obtain ⟨a1, a2, a3, a4, a5, a6, a7, a8, a9, a10, a11, a12⟩ := h
  have hle := a1.2.2.2.2.1
  unfold F_plaitref09_Recv recvC F_plaitref09_nobody
  simp only [Option.bind_some]
  by_cases b1 : c.1 < 0
  · have hnone : c.2.2.2.2.2.1.findIdx? (notG w.1) = none := by
      unfold sidesOK at a12
      rw [if_pos b1] at a12
      rw [List.length_eq_zero_iff.1 a12.2.2.1]; rfl
    rw [hnone]
    simp only
    rw [if_pos b1]
    exact ⟨c, by rw [neg1, bif_t (by simp; omega)]; rfl, fun _ => SameC.refl a1⟩
  have hcap : c.2.2.1.1 = c.1 := by rw [a4]; omega
  rw [neg1, bif_f (by simp; omega), refFirst_eq _ _ (by omega)]
  simp only [Option.bind_some]
  cases hf : c.2.2.2.2.2.1.findIdx? (notG w.1) with
  | some i =>
    obtain ⟨hi, _⟩ := List.findIdx?_eq_some_iff_getElem.1 hf
    have e0 : decide ((i : Int) ≥ 0) = true := by simp
    have e1 : decide ((i : Int) < 0) = false := by simp
    have hg : getAt ((0 : Int), ((0 : Int), (0 : Int))) c.2.2.2.2.2.1 (toN (i : Int)) = c.2.2.2.2.2.1.getD i zeroW := getAt_eq _ _ _
    simp only [e0, e1, cond_true, cond_false]
    by_cases b4 : c.2.2.2.1 = 1048576
    · rw [bif_t (by simpa using b4), if_pos b4]
      exact ⟨_, rfl, fun e => by cases e⟩
    · rw [bif_f (by simpa using b4), if_neg b4, bif_t (inb_nat hi), hg, rleave_eq _ _ (by omega) (by omega)]
      simp only [Option.bind_some]
      rw [move_eq (leaveC c (c.2.2.2.2.2.1.getD i zeroW).1) 1 1 (by omega) (by omega) a3 a9 (show c.2.2.2.2.1 + 1 ≤ c.2.2.2.1 + 1 by omega) a8 (show c.2.2.2.1 + 1 - (c.2.2.2.2.1 + 1) ≤ max c.1 0 by omega)]
      by_cases b3 : c.2.2.1.2.2.2 > 0
      · rw [bif_t (decide_eq_true b3), if_pos b3, (same_pop hh b3).2]
        exact ⟨_, rfl, fun _ => same_poppush (leave_ok hh _) b3⟩
      · rw [bif_f (decide_eq_false b3), if_neg b3]
        have hz : c.2.2.1.2.2.2 = 0 := by have := a1.2.2.2.1; omega
        rw [show c.2.2.2.2.1 = c.2.2.2.1 by omega]
        exact ⟨_, rfl, fun _ => same_pass (leave_ok hh _) hz⟩
  | none =>
    have e0 : decide (Int.negSucc 0 ≥ 0) = false := rfl
    have e1 : decide (Int.negSucc 0 < 0) = true := rfl
    simp only [e0, e1, cond_true, cond_false]
    rw [if_neg b1]
    by_cases b3 : c.2.2.1.2.2.2 > 0
    · rw [bif_t (decide_eq_true b3), if_pos b3, (same_pop hh b3).2, move_eq c 0 1 (by omega) (by omega) a3 a9 (by omega) a8 (by omega)]
      exact ⟨_, rfl, fun _ => (same_pop hh b3).1⟩
    · rw [bif_f (decide_eq_false b3), if_neg b3]
      cases b2 : c.2.1 with
      | true => rw [if_pos rfl]; exact ⟨c, rfl, fun _ => SameC.refl a1⟩
      | false =>
        rw [if_neg (by simp), cond_false, rpushW_eq _ _ l2]
        simp only [Option.bind_some]
        unfold outR
        by_cases b4 : (pushW c.2.2.2.2.2.2 w).2 = 0
        · rw [bif_f (by simpa using b4), if_pos b4]
          exact ⟨_, rfl, fun _ => ⟨rfl, b2, rfl, rfl, rfl, rfl, a1, a1, rfl, rfl⟩⟩
        · rw [bif_t (by simpa using b4), if_neg b4]
          exact ⟨_, rfl, fun e => absurd e b4⟩
end Go.Proofs.Ytgnellpcphepjaa.VX.VxD_C
