/- Plain laws of chans: which may be; who is met; Ready, Close, Leave. -/
import Derived.Test.YtgnellpcphepjaaVdWaits3
import Derived.Test.YtgnellpcphepjaaVdRing
import Derived.Test.YtgnellpcphepjaaVl2
set_option linter.unusedVariables false
set_option linter.unusedSimpArgs false
namespace Go.Proofs.Ytgnellpcphepjaa.VX.VxD_C
open Go.Proofs
abbrev Ch := Int × (Bool × (Rg × (Int × (Int × (List W × List W)))))
abbrev Ou := Int × (Int × (W × Int))
def zeroC : Ch := (0, false, (0, 0, [], 0), 0, 0, [], [])
def zeroOu : Ou := (0, 0, (0, 0, 0), 0)
def seqI (a : Int) (n : Nat) : List Int := (List.range n).map fun (i : Nat) => a + (i : Int)
theorem seqI_len (a : Int) (n : Nat) : (seqI a n).length = n := by simp [seqI]
theorem seqI_get (a : Int) (n : Nat) (k : Nat) (h : k < (seqI a n).length) : (seqI a n)[k] = a + (k : Int) := by simp [seqI]
theorem seq_iff {l : List Int} {a : Int} : l = seqI a l.length ↔ ∀ k (h : k < l.length), l[k] = a + (k : Int) := by
  constructor
  · intro h k hk
    have h1 : l[k]? = (seqI a l.length)[k]? := by rw [← h]
    rw [List.getElem?_eq_getElem hk, List.getElem?_eq_getElem (by rw [seqI_len]; exact hk)] at h1
    rw [Option.some.inj h1, seqI_get]
  · intro h
    apply List.ext_getElem
    · rw [seqI_len]
    · intro k h1 h2
      rw [h k h1, seqI_get]
theorem numbers_eq (l : List Int) (a b : Int) (hl : l.length ≤ 1000) (ha : 0 ≤ a ∧ a ≤ 1048576) (hb : a ≤ b ∧ b ≤ 1048576) : F_chans_numbers (l, a, b) = some (decide (l = seqI a l.length ∧ (l.length : Int) = b - a)) := by
  have := loop_find (f := L_chans_numbers_3) ((List.range l.length).map fun k => decide (l.getD k 0 ≠ a + (k : Int))) (fun b => b) (fun k => (l, a, b, l, (l.length : Int), (k : Int))) (fun _ => .inl false) (.inr (l, a, b)) (by
    intro k hk
    have hk' : k < l.length := by simpa using hk
    unfold L_chans_numbers_3
    simp only
    rw [bif_t (by simpa using hk'), bif_t (inb_nat hk'), toN_nat, getAtL _ hk', wrapI (n := a + (k : Int)) (by omega) (by omega), wrapI (n := (k : Int) + 1) (by omega) (by omega)]
    have hd : l.getD k 0 = l[k] := by simp [List.getD, hk']
    rw [List.getElem_map, List.getElem_range, hd]
    by_cases h : l[k] = a + (k : Int)
    · rw [bif_f (by simp [h]), if_neg (by simp [h])]; rfl
    · rw [bif_t (by simp [h]), if_pos (by simp [h])]) (by
    unfold L_chans_numbers_3
    simp only [List.length_map, List.length_range]
    rw [bif_f (by simp)])
  unfold F_chans_numbers
  simp only
  rw [show loop L_chans_numbers_3 (l, a, b, l, (l.length : Int), (0 : Int)) = _ from this]
  cases hf : ((List.range l.length).map fun k => decide (l.getD k 0 ≠ a + (k : Int))).findIdx? (fun b => b) with
  | none =>
    rw [List.findIdx?_eq_none_iff] at hf
    have hs : l = seqI a l.length := seq_iff.2 (fun k hk => by
      have := hf (decide (l.getD k 0 ≠ a + (k : Int))) (List.mem_map.2 ⟨k, List.mem_range.2 hk, rfl⟩)
      have hd : l.getD k 0 = l[k] := by simp [List.getD, hk]
      rw [hd] at this
      simpa using this)
    simp only [Option.bind_some]
    rw [wrapI (by omega) (by omega)]
    by_cases h : (l.length : Int) = b - a
    · rw [decide_eq_true ⟨hs, h⟩, beq_iff_eq.2 h]
    · rw [decide_eq_false (fun e => h e.2), beq_eq_false_iff_ne.2 h]
  | some i =>
    obtain ⟨hi, hp, _⟩ := List.findIdx?_eq_some_iff_getElem.1 hf
    have hi' : i < l.length := by simpa using hi
    refine decF (fun e => ?_)
    have hd : l.getD i 0 = l[i] := by simp [List.getD, hi']
    rw [List.getElem_map, List.getElem_range, hd] at hp
    have := seq_iff.1 e.1 i hi'
    simp [this] at hp
/-- What of a channel's sides may be. -/
def sidesOK (c : Ch) : Prop := if c.1 < 0 then c.2.1 = false ∧ c.2.2.2.1 = 0 ∧ c.2.2.2.2.2.1.length = 0 ∧ c.2.2.2.2.2.2.length = 0 else
  if c.2.1 = true then c.2.2.2.2.2.1.length = 0 ∧ c.2.2.2.2.2.2.length = 0 else (c.2.2.2.2.2.1.length = 0 ∨ c.2.2.1.2.2.2 = c.1) ∧ (c.2.2.2.2.2.2.length = 0 ∨ c.2.2.1.2.2.2 = 0)
instance (c : Ch) : Decidable (sidesOK c) := by unfold sidesOK; infer_instance
def chOK (c : Ch) : Prop := rOK c.2.2.1 ∧ -1 ≤ c.1 ∧ c.1 ≤ 3 ∧ c.2.2.1.1 = max c.1 0 ∧ wOK c.2.2.2.2.2.1 ∧ wOK c.2.2.2.2.2.2 ∧ 0 ≤ c.2.2.2.1 ∧ c.2.2.2.1 ≤ 1048576 ∧ 0 ≤ c.2.2.2.2.1 ∧ c.2.2.2.2.1 ≤ c.2.2.2.1 ∧
  (rItems c.2.2.1 = seqI c.2.2.2.2.1 (rItems c.2.2.1).length ∧ ((rItems c.2.2.1).length : Int) = c.2.2.2.1 - c.2.2.2.2.1) ∧ sidesOK c
instance (c : Ch) : Decidable (chOK c) := by unfold chOK; infer_instance
theorem beqI (a b : Int) : (a == b) = decide (a = b) := by
  by_cases h : a = b
  · rw [decide_eq_true h, beq_iff_eq.2 h]
  · rw [decide_eq_false h, beq_eq_false_iff_ne.2 h]
theorem gt0 (n : Nat) : decide ((n : Int) > 0) = !decide (n = 0) := by
  cases n with
  | zero => rfl
  | succ n => simp
theorem cRight_eq (c : Ch) (h1 : c.2.2.2.2.2.1.length < 4611686018427387904) (h2 : c.2.2.2.2.2.2.length < 4611686018427387904) : F_chans_Right c = some (decide (chOK c)) := by
  unfold F_chans_Right chOK
  rw [items_eq]
  simp only [Option.bind_some]
  rcases (Classical.em (rOK c.2.2.1)).symm with a1 | a1
  · rw [if_neg a1, bif_t (by rfl)]; exact decF (fun h => a1 h.1)
  rw [if_pos a1, bif_f (by rfl), show Int.negSucc 0 = (-1 : Int) from rfl]
  by_cases a2 : c.1 < -1
  · rw [bif_t (decide_eq_true a2)]; exact decF (by omega)
  rw [bif_f (decide_eq_false a2)]
  by_cases a3 : c.1 > 3
  · rw [bif_t (decide_eq_true a3)]; exact decF (by omega)
  rw [bif_f (decide_eq_false a3)]
  rcases (Classical.em (c.2.2.1.1 = max c.1 0)).symm with a4 | a4
  · rw [bif_t (by simpa using a4)]; exact decF (fun h => a4 h.2.2.2.1)
  rw [bif_f (by simpa using a4), wRight_eq _ h1]
  simp only [Option.bind_some]
  rcases (Classical.em (wOK c.2.2.2.2.2.1)).symm with a5 | a5
  · rw [bif_t (by simpa using a5)]; exact decF (fun h => a5 h.2.2.2.2.1)
  rw [bif_f (by simpa using a5), wRight_eq _ h2]
  simp only [Option.bind_some]
  rcases (Classical.em (wOK c.2.2.2.2.2.2)).symm with a6 | a6
  · rw [bif_t (by simpa using a6)]; exact decF (fun h => a6 h.2.2.2.2.2.1)
  rw [bif_f (by simpa using a6)]
  by_cases a7 : c.2.2.2.1 < 0
  · rw [bif_t (decide_eq_true a7)]; exact decF (by omega)
  rw [bif_f (decide_eq_false a7)]
  by_cases a8 : c.2.2.2.1 > 1048576
  · rw [bif_t (decide_eq_true a8)]; exact decF (by omega)
  rw [bif_f (decide_eq_false a8)]
  by_cases a9 : c.2.2.2.2.1 < 0
  · rw [bif_t (decide_eq_true a9)]; exact decF (by omega)
  rw [bif_f (decide_eq_false a9)]
  by_cases a10 : c.2.2.2.2.1 > c.2.2.2.1
  · rw [bif_t (decide_eq_true a10)]; exact decF (by omega)
  have hil := items_len c.2.2.1
  have hil8 : (rItems c.2.2.1).length ≤ 8 := by obtain ⟨_, _, _, _, _, _⟩ := a1; omega
  rw [bif_f (decide_eq_false a10), numbers_eq _ _ _ (by omega) (by omega) (by omega)]
  simp only [Option.bind_some]
  rcases (Classical.em (rItems c.2.2.1 = seqI c.2.2.2.2.1 (rItems c.2.2.1).length ∧ ((rItems c.2.2.1).length : Int) = c.2.2.2.1 - c.2.2.2.2.1)).symm with a11 | a11
  · rw [bif_t (by rw [decide_eq_false a11]; rfl)]; exact decF (fun h => a11 h.2.2.2.2.2.2.2.2.2.2.1)
  have hcnt : (((rItems c.2.2.1).length : Nat) : Int) = c.2.2.1.2.2.2 := by obtain ⟨_, _, _, _, _, _⟩ := a1; omega
  rw [bif_f (by simpa using a11)]
  have done : ∀ {q : Prop} [Decidable q] {b : Option Bool}, (b = some (decide (sidesOK c))) → b = some (decide (rOK c.2.2.1 ∧ -1 ≤ c.1 ∧ c.1 ≤ 3 ∧ c.2.2.1.1 = max c.1 0 ∧ wOK c.2.2.2.2.2.1 ∧ wOK c.2.2.2.2.2.2 ∧ 0 ≤ c.2.2.2.1 ∧ c.2.2.2.1 ≤ 1048576 ∧ 0 ≤ c.2.2.2.2.1 ∧ c.2.2.2.2.1 ≤ c.2.2.2.1 ∧
      (rItems c.2.2.1 = seqI c.2.2.2.2.1 (rItems c.2.2.1).length ∧ ((rItems c.2.2.1).length : Int) = c.2.2.2.1 - c.2.2.2.2.1) ∧ sidesOK c)) := by
    intro _ _ b hb
    rw [hb]
    exact decE ⟨fun h => ⟨a1, by omega, by omega, a4, a5, a6, by omega, by omega, by omega, by omega, a11, h⟩, fun h => h.2.2.2.2.2.2.2.2.2.2.2⟩
  refine done (q := True) ?_
  rw [gt0, gt0, hcnt]
  unfold sidesOK
  by_cases b1 : c.1 < 0
  · rw [bif_t (decide_eq_true b1)]
    simp only [if_pos b1]
    cases c.2.1 with
    | true => rfl
    | false =>
      by_cases b2 : c.2.2.2.1 = 0
      · rw [Bool.not_false, cond_true, bif_t (by simpa using b2)]
        by_cases b3 : c.2.2.2.2.2.1.length = 0 <;> by_cases b4 : c.2.2.2.2.2.2.length = 0 <;> simp [b2, b3, b4]
      · rw [Bool.not_false, cond_true, bif_f (by simpa using b2)]; exact decF (fun h => b2 h.2.1)
  · rw [bif_f (decide_eq_false b1)]
    simp only [if_neg b1]
    cases c.2.1 with
    | true =>
      simp only [if_true, cond_true]
      by_cases b3 : c.2.2.2.2.2.1.length = 0 <;> by_cases b4 : c.2.2.2.2.2.2.length = 0 <;> simp [b3, b4]
    | false =>
      have e5 : (c.2.2.1.2.2.2 == c.1) = decide (c.2.2.1.2.2.2 = c.1) := beqI _ _
      have e6 : (c.2.2.1.2.2.2 == 0) = decide (c.2.2.1.2.2.2 = 0) := beqI _ _
      simp only [Bool.false_eq_true, if_false, cond_false, Bool.decide_and, Bool.decide_or, e5, e6]
      generalize decide (c.2.2.2.2.2.1.length = 0) = x1
      generalize decide (c.2.2.2.2.2.2.length = 0) = x2
      generalize decide (c.2.2.1.2.2.2 = c.1) = x3
      generalize decide (c.2.2.1.2.2.2 = 0) = x4
      cases x1 <;> cases x2 <;> cases x3 <;> cases x4 <;> rfl
end Go.Proofs.Ytgnellpcphepjaa.VX.VxD_C
