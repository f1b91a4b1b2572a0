/- Plain laws of chans, more: New, Send, Recv, and the references. -/
import Derived.Test.YtgnellpcphepjaaVdChan2
set_option linter.unusedVariables false
set_option linter.unusedSimpArgs false
namespace Go.Proofs.Ytgnellpcphepjaa.VX.VxD_C
open Go.Proofs
def newC (n : Int) : Ch := (n, false, (max n 0, 0, List.replicate (max n 0).toNat 0, 0), 0, 0, [], [])
theorem cnew_eq (n : Int) : F_chans_New n = some (if n < -1 ∨ n > 3 then (zeroC, 2) else (newC n, 0)) := by
  unfold F_chans_New
  by_cases h1 : n < -1
  · rw [neg1, bif_t (decide_eq_true h1), if_pos (.inl h1)]; rfl
  by_cases h2 : n > 3
  · rw [neg1, bif_f (decide_eq_false h1), bif_t (decide_eq_true h2), if_pos (.inr h2)]; rfl
  rw [neg1, bif_f (decide_eq_false h1), bif_f (decide_eq_false h2), if_neg (by omega), new_eq, if_neg (by omega)]
  rfl
theorem rnew_eq (n : Int) (h1 : -1 ≤ n) (h2 : n ≤ 3) : F_plaitref09_New n = some (newC n) := by
  have := loop_count (f := L_plaitref09_New_4) n.toNat (fun k => (n, (k : Int), 0, false, 0, 0, 0, 0, 0, n, false, max n 0, 0, 0, 0, 0, List.replicate k 0)) (0, false, 0, 0, 0, 0, 0, n, false, max n 0, 0, 0, 0, 0, List.replicate n.toNat 0) (fun k hk => by
    unfold L_plaitref09_New_4
    simp only
    rw [bif_t (decide_eq_true (by omega)), bif_t (fits_iff.2 (by simp; omega)), wrapI (by omega) (by omega), List.replicate_succ']
    rfl) (by
    unfold L_plaitref09_New_4
    simp only
    rw [bif_f (decide_eq_false (by omega))]) 0 (Nat.zero_le _)
  unfold F_plaitref09_New
  rw [show loop L_plaitref09_New_4 (n, (0 : Int), (0 : Int), false, (0 : Int), (0 : Int), (0 : Int), (0 : Int), (0 : Int), n, false, max n 0, (0 : Int), (0 : Int), (0 : Int), (0 : Int), ([] : List Int)) = _ from this]
  unfold newC
  rw [show (max n 0).toNat = n.toNat by omega]
  rfl
theorem newC_rok (n : Int) (h2 : n ≤ 3) : rOK (newC n).2.2.1 := new_ok (by omega) (by omega)
def passC (c : Ch) : Ch := (c.1, c.2.1, c.2.2.1, c.2.2.2.1 + 1, c.2.2.2.2.1 + 1, c.2.2.2.2.2.1, c.2.2.2.2.2.2)
def pushC (c : Ch) : Ch := (c.1, c.2.1, pushed c.2.2.1 c.2.2.2.1, c.2.2.2.1 + 1, c.2.2.2.2.1, c.2.2.2.2.2.1, c.2.2.2.2.2.2)
def popC (c : Ch) : Ch := (c.1, c.2.1, popped c.2.2.1, c.2.2.2.1, c.2.2.2.2.1 + 1, c.2.2.2.2.2.1, c.2.2.2.2.2.2)
theorem pass_eq (c : Ch) (k : Int) (h1 : 0 ≤ c.2.2.2.1 ∧ c.2.2.2.1 ≤ 1048576) (h2 : 0 ≤ c.2.2.2.2.1 ∧ c.2.2.2.2.1 ≤ 1048576) : F_chans_work_pass (c, k) = some (c.2.2.2.1, passC c, k) := by
  unfold F_chans_work_pass
  simp only
  rw [wrapI (by omega) (by omega), wrapI (by omega) (by omega)]; rfl
theorem wpush_eq2 (c : Ch) (k : Int) (h : rOK c.2.2.1) (hf : c.2.2.1.2.2.2 ≠ c.2.2.1.1) (h1 : 0 ≤ c.2.2.2.1 ∧ c.2.2.2.1 ≤ 1048576) : F_chans_work_push (c, k) = some (c.2.2.2.1, pushC c, k) := by
  unfold F_chans_work_push
  simp only
  rw [push_eq, if_pos h, if_neg hf]
  simp only [Option.bind_some]
  rw [wrapI (by omega) (by omega)]; rfl
theorem wpop_eq (c : Ch) (k : Int) (h : rOK c.2.2.1) (hf : c.2.2.1.2.2.2 ≠ 0) (h1 : 0 ≤ c.2.2.2.2.1 ∧ c.2.2.2.2.1 ≤ 1048576) : F_chans_work_pop (c, k) = some (first c.2.2.1, popC c, k) := by
  unfold F_chans_work_pop
  simp only
  rw [pop_eq, if_pos h, if_neg hf]
  simp only [Option.bind_some]
  rw [wrapI (by omega) (by omega)]; rfl
def pushW (l : List W) (w : W) : List W × Int := if keyW w ∈ l.map keyW then ([], 7) else if l.length = 64 then ([], 5) else (l ++ [w], 0)
theorem pushW_eq (l : List W) (w : W) (hl : wOK l) (hw : isW w) : F_waits_Push (l, w) = some (pushW l w) := by
  have := hl.2.1
  rw [wpush_eq l w (by omega), if_pos hl, if_pos hw]; rfl
theorem rpushW_eq (l : List W) (w : W) (hl : l.length ≤ 64) : F_plaitref09_Push (l, w) = some (pushW l w) := by
  unfold F_plaitref09_Push pushW
  have hh : F_plaitref05_Has (l, w.1, w.2.1) = some (decide (keyW w ∈ l.map keyW)) := has_eq l w.1 w.2.1 (by omega)
  simp only
  rw [hh]
  simp only [Option.bind_some]
  by_cases h3 : keyW w ∈ l.map keyW
  · rw [bif_t (by simpa using h3), if_pos h3]
  · rw [bif_f (by simpa using h3), if_neg h3]
    by_cases h4 : l.length = 64
    · rw [bif_t (by simp [h4]), if_pos h4]
    · rw [bif_f (beq_eq_false_iff_ne.2 (by omega)), if_neg h4, bif_t (fits_iff.2 (by simp; omega)), bif_t (fits_iff.2 (by simp; omega))]
      rfl
def outS (c : Ch) (w : W) : Ch × Ou × Int := if (pushW c.2.2.2.2.2.1 w).2 = 0 then ((c.1, c.2.1, c.2.2.1, c.2.2.2.1, c.2.2.2.2.1, (pushW c.2.2.2.2.2.1 w).1, c.2.2.2.2.2.2), (0, 0, nobody, 0), 0) else (zeroC, zeroOu, (pushW c.2.2.2.2.2.1 w).2)
def outR (c : Ch) (w : W) : Ch × Ou × Int := if (pushW c.2.2.2.2.2.2 w).2 = 0 then ((c.1, c.2.1, c.2.2.1, c.2.2.2.1, c.2.2.2.2.1, c.2.2.2.2.2.1, (pushW c.2.2.2.2.2.2 w).1), (0, 0, nobody, 0), 0) else (zeroC, zeroOu, (pushW c.2.2.2.2.2.2 w).2)
def sendC (c : Ch) (w : W) : Ch × Ou × Int :=
  if c.1 < 0 then (c, (0, 0, nobody, 0), 0) else if c.2.1 = true then (c, (3, 0, nobody, 0), 0) else
  match c.2.2.2.2.2.2.findIdx? (notG w.1) with
  | some i => if c.2.2.2.1 = 1048576 then (zeroC, zeroOu, 5) else (passC (leaveC c (c.2.2.2.2.2.2.getD i zeroW).1), (1, c.2.2.2.1, c.2.2.2.2.2.2.getD i zeroW, c.2.2.2.1), 0)
  | none => if c.2.2.1.2.2.2 = c.2.2.1.1 then outS c w else if c.2.2.2.1 = 1048576 then (zeroC, zeroOu, 5) else (pushC c, (1, c.2.2.2.1, nobody, 0), 0)
theorem isWait_eq2 (w : W) : F_chans_isWait w = some (decide (isW w)) := by
  simp only [F_chans_isWait, isW, cond_eq_ite, decide_eq_true_eq]
  repeat' split
  all_goals first | exact decF (by omega) | exact decT (by omega) | exact decE (by omega)
theorem send_eq (c : Ch) (w : W) (h1 : c.2.2.2.2.2.1.length < 4611686018427387904) (h2 : c.2.2.2.2.2.2.length < 4611686018427387904) : F_chans_Send (c, w) = some (if chOK c ∧ isW w then sendC c w else (zeroC, zeroOu, 1)) := by
  unfold F_chans_Send F_chans_work_isNil F_chans_work_full
  simp only
  rw [cRight_eq c h1 h2, isWait_eq2]
  simp only [Option.bind_some]
  rcases (Classical.em (chOK c)).symm with h | h
  · rw [decide_eq_false h, if_neg (fun e => h e.1)]; rfl
  rw [decide_eq_true h, bif_f (by rfl)]
  rcases (Classical.em (isW w)).symm with hw | hw
  · rw [decide_eq_false hw, if_neg (fun e => hw e.2)]; rfl
  rw [decide_eq_true hw, bif_f (by rfl), if_pos ⟨h, hw⟩]
  obtain ⟨a1, a2, a3, a4, a5, a6, a7, a8, a9, a10, a11, a12⟩ := h
  rw [other_eq _ _ _ a6 hw.1]
  simp only [Option.bind_some]
  unfold sendC
  by_cases b1 : c.1 < 0
  · rw [bif_t (decide_eq_true b1), if_pos b1]; rfl
  rw [bif_f (decide_eq_false b1), if_neg b1]
  cases b2 : c.2.1 with
  | true => rw [cond_true, if_pos rfl]; rfl
  | false =>
    rw [cond_false, if_neg (by simp)]
    rcases other_in (g := w.1) a6 with ⟨e1, e2, e3⟩ | ⟨e1, e2, e3, i, e4, e5, e6⟩
    · rw [e3, e2, bif_f (by rfl)]
      simp only
      by_cases b3 : c.2.2.1.2.2.2 = c.2.2.1.1
      · rw [if_pos b3, bif_f (by simpa using b3), bif_f (by rfl), bif_f (by simpa using b3), pushW_eq _ _ a5 hw]
        simp only [Option.bind_some]
        unfold outS
        by_cases b4 : (pushW c.2.2.2.2.2.1 w).2 = 0
        · rw [bif_f (by simpa using b4), if_pos b4, b2]
        · rw [bif_t (by simpa using b4), if_neg b4]; rfl
      · rw [if_neg b3, bif_t (by simpa using b3)]
        by_cases b4 : c.2.2.2.1 = 1048576
        · rw [bif_t (by simpa using b4), if_pos b4]; rfl
        · rw [bif_f (by simpa using b4), if_neg b4, bif_f (by rfl), bif_t (by simpa using b3), wpush_eq2 _ _ a1 b3 ⟨a7, a8⟩]
          rfl
    · rw [e5, bif_t (by simpa using e1)]
      simp only
      by_cases b4 : c.2.2.2.1 = 1048576
      · rw [bif_t (by simpa using b4), if_pos b4]; rfl
      · rw [bif_f (by simpa using b4), if_neg b4, bif_t (by simpa using e1), wleave_eq _ _ _ a5 a6 e2.1]
        simp only [Option.bind_some]
        rw [pass_eq (leaveC c (otherP c.2.2.2.2.2.2 w.1).1) w.1 ⟨a7, a8⟩ (show 0 ≤ c.2.2.2.2.1 ∧ c.2.2.2.2.1 ≤ 1048576 by omega), e6]
        rfl
/-- Where somebody who would receive stands. -/
def recvC (c : Ch) (w : W) : Ch × Ou × Int :=
  match c.2.2.2.2.2.1.findIdx? (notG w.1) with
  | some i => if c.2.2.2.1 = 1048576 then (zeroC, zeroOu, 5) else
    if c.2.2.1.2.2.2 > 0 then (pushC (popC (leaveC c (c.2.2.2.2.2.1.getD i zeroW).1)), (1, first c.2.2.1, c.2.2.2.2.2.1.getD i zeroW, c.2.2.2.1), 0)
    else (passC (leaveC c (c.2.2.2.2.2.1.getD i zeroW).1), (1, c.2.2.2.1, c.2.2.2.2.2.1.getD i zeroW, c.2.2.2.1), 0)
  | none => if c.1 < 0 then (c, (0, 0, nobody, 0), 0) else if c.2.2.1.2.2.2 > 0 then (popC c, (1, first c.2.2.1, nobody, 0), 0) else if c.2.1 = true then (c, (2, 0, nobody, 0), 0) else outR c w
theorem recv_eq (c : Ch) (w : W) (h1 : c.2.2.2.2.2.1.length < 4611686018427387904) (h2 : c.2.2.2.2.2.2.length < 4611686018427387904) : F_chans_Recv (c, w) = some (if chOK c ∧ isW w then recvC c w else (zeroC, zeroOu, 1)) := by
  unfold F_chans_Recv F_chans_work_isNil
  simp only
  rw [cRight_eq c h1 h2, isWait_eq2]
  simp only [Option.bind_some]
  rcases (Classical.em (chOK c)).symm with h | h
  · rw [decide_eq_false h, if_neg (fun e => h e.1)]; rfl
  rw [decide_eq_true h, bif_f (by rfl)]
  rcases (Classical.em (isW w)).symm with hw | hw
  · rw [decide_eq_false hw, if_neg (fun e => hw e.2)]; rfl
  rw [decide_eq_true hw, bif_f (by rfl), if_pos ⟨h, hw⟩]
  have hh := h
  obtain ⟨a1, a2, a3, a4, a5, a6, a7, a8, a9, a10, a11, a12⟩ := h
  rw [other_eq _ _ _ a5 hw.1]
  simp only [Option.bind_some]
  unfold recvC
  have hcnt : c.2.2.1.2.2.2 = c.2.2.2.1 - c.2.2.2.2.1 := by
    have := items_len c.2.2.1
    have := a11.2
    obtain ⟨_, _, _, _, _, _⟩ := a1; omega
  rcases other_in (g := w.1) a5 with ⟨e1, e2, e3⟩ | ⟨e1, e2, e3, i, e4, e5, e6⟩
  · rw [e3, e2, bif_f (by rfl)]
    simp only
    by_cases b1 : c.1 < 0
    · rw [bif_t (decide_eq_true b1), if_pos b1]
    rw [bif_f (decide_eq_false b1), if_neg b1]
    by_cases b3 : c.2.2.1.2.2.2 > 0
    · rw [bif_t (decide_eq_true b3), if_pos b3, wpop_eq _ _ a1 (by omega) ⟨a9, by omega⟩]
      simp only [Option.bind_some]
      rw [bif_f (by rfl)]
    · rw [bif_f (decide_eq_false b3), if_neg b3, bif_f (by rfl)]
      cases b2 : c.2.1 with
      | true => rw [cond_true, if_pos rfl]
      | false =>
        rw [cond_false, if_neg (by simp), pushW_eq _ _ a6 hw]
        simp only [Option.bind_some]
        unfold outR
        by_cases b4 : (pushW c.2.2.2.2.2.2 w).2 = 0
        · rw [bif_f (by simpa using b4), if_pos b4]; rw [b2]
        · rw [bif_t (by simpa using b4), if_neg b4]; rfl
  · rw [e5, bif_t (by simpa using e1)]
    simp only
    have hne : c.2.2.2.2.2.1.length ≠ 0 := by omega
    have hcap : ¬ c.1 < 0 := by
      intro e
      unfold sidesOK at a12
      rw [if_pos e] at a12
      exact hne a12.2.2.1
    by_cases b4 : c.2.2.2.1 = 1048576
    · rw [bif_t (by simpa using b4), if_pos b4]; rfl
    · rw [bif_f (by simpa using b4), if_neg b4, wleave_eq _ _ _ a5 a6 e2.1]
      simp only [Option.bind_some]
      rw [bif_f (show decide ((leaveC c (otherP c.2.2.2.2.2.1 w.1).1).1 < 0) = false from decide_eq_false hcap)]
      by_cases b3 : c.2.2.1.2.2.2 > 0
      · rw [bif_t (show decide ((leaveC c (otherP c.2.2.2.2.2.1 w.1).1).2.2.1.2.2.2 > 0) = true from decide_eq_true b3), if_pos b3, wpop_eq (leaveC c (otherP c.2.2.2.2.2.1 w.1).1) w.1 (show rOK c.2.2.1 from a1) (show c.2.2.1.2.2.2 ≠ 0 by omega) (show 0 ≤ c.2.2.2.2.1 ∧ c.2.2.2.2.1 ≤ 1048576 by omega)]
        simp only [Option.bind_some]
        rw [bif_t (by simpa using e1), wpush_eq2 (popC (leaveC c (otherP c.2.2.2.2.2.1 w.1).1)) w.1 (show rOK (popped c.2.2.1) from popped_ok a1 (by omega)) (show c.2.2.1.2.2.2 - 1 ≠ c.2.2.1.1 by have := a1.2.2.2.2.1; omega) ⟨a7, a8⟩, e6]
        rfl
      · rw [bif_f (show decide ((leaveC c (otherP c.2.2.2.2.2.1 w.1).1).2.2.1.2.2.2 > 0) = false from decide_eq_false b3), if_neg b3, bif_t (by simpa using e1), pass_eq (leaveC c (otherP c.2.2.2.2.2.1 w.1).1) w.1 ⟨a7, a8⟩ (show 0 ≤ c.2.2.2.2.1 ∧ c.2.2.2.2.1 ≤ 1048576 by omega), e6]
        rfl
end Go.Proofs.Ytgnellpcphepjaa.VX.VxD_C
