import Derived.Test.YtipmoncamnafbaaX21
import Derived.Test.YtipmoncamnafbaaPl8
set_option linter.unusedVariables false
set_option linter.unusedSimpArgs false
namespace Go.Proofs.Ytipmoncamnafbaa.Pure
open Go.RowKit Go.Proofs.Ytipmoncamnafbaa.X Go.Proofs.YtipmoncamnafbaaW.PrintWords Go.Proofs.YtipmoncamnafbaaW.PrintLast Go.Proofs.YtipmoncamnafbaaW.PrintMore

/-- what At tells -/
def atR (a : List Int) (g : Int) : Int × Int := if vok a then (if g < 0 then (0, 3) else if 16 ≤ g then (0, 3) else ((whole a).getD g.toNat 0, 0)) else (0, 1)
def tickR (a : List Int) (g : Int) : List Int × Int := if (atR a g).2 = 0 then (if (atR a g).1 = 1099511627776 then ([], 8) else (vtrim ((whole a).set g.toNat ((atR a g).1 + 1)), 0)) else ([], (atR a g).2)
theorem tells_j3 (a : List Int) (ha : vok a = true) (g : Int) (k : Nat) (hk : 40 ≤ k) : plaitlaw01_VclockTells.j3 k a g (atR a g).1 (atR a g).2 (tickR a g).1 (tickR a g).2 false = some true := by
  obtain ⟨k, rfl⟩ : ∃ m, k = m + 3 := ⟨k - 3, by omega⟩
  rw [plaitlaw01_VclockTells.j3, if_neg (by simp)]
  by_cases hout : g < 0 ∨ 16 ≤ g
  · have e1 : atR a g = (0, 3) := by
      unfold atR
      rw [if_pos ha]
      rcases hout with h | h
      · rw [if_pos h]
      · rw [if_neg (by omega), if_pos h]
    have e2 : tickR a g = ([], 3) := by
      unfold tickR; rw [e1]; simp
    have : plaitlaw01_VclockTells.j4 (k + 2) a g (atR a g).1 (atR a g).2 (tickR a g).1 (tickR a g).2 true = some true := by
      rw [plaitlaw01_VclockTells.j4, e1, e2]; simp
    by_cases h : g < 0
    · rw [if_pos h]; exact this
    · rw [if_neg h, show decide (g > 15) = true by simp; omega]; exact this
  · obtain ⟨n, rfl⟩ : ∃ n : Nat, g = n := ⟨g.toNat, by omega⟩
    have hn : n < 16 := by omega
    have e1 : atR a n = (a.getD n 0, 0) := by
      unfold atR
      rw [if_pos ha, if_neg (by omega), if_neg (by omega), Int.toNat_natCast, whole_getD]
    rw [if_neg (by omega), show decide ((n : Int) > 15) = false by simp; omega, plaitlaw01_VclockTells.j4, if_neg (by simp), e1]
    simp only [if_true]
    rw [refAt a n (by omega), Int.toNat_natCast]
    simp only [Option.bind_some]
    rw [show (a.getD n 0 != a.getD n 0) = false by simp, plaitlaw01_VclockTells.j5, if_neg (by simp)]
    by_cases h : a.getD n 0 = 1099511627776
    · have e2 : tickR a n = ([], 8) := by
        unfold tickR; rw [e1, if_pos rfl, if_pos h]
      rw [e2, if_pos h]; simp
    · have e2 : tickR a n = (vtrim ((whole a).set n (a.getD n 0 + 1)), 0) := by
        unfold tickR; rw [e1, if_pos rfl, if_neg h, Int.toNat_natCast]
      have hl : (vtrim ((whole a).set n (a.getD n 0 + 1))).length ≤ 16 := by
        have h1 := vtrim_len ((whole a).set n (a.getD n 0 + 1))
        have h2 := vok_len ha
        have h3 : ((whole a).set n (a.getD n 0 + 1)).length = 16 := by rw [List.length_set]; simp [whole]; omega
        omega
      rw [e2, if_neg h, if_pos rfl, refTick a n hn ha k (by omega)]
      simp only [Option.bind_some]
      rw [rows_self _ k (by omega) (by omega)]
      rfl
theorem at_R (a : List Int) (g : Int) : vclock_At.f a g = some (atR a g) := rfl
theorem tick_R (a : List Int) (g : Int) : vclock_Tick.f a g = some (tickR a g) := rfl
theorem tells_j2 (a : List Int) (hal : a.length ≤ 20) (g : Int) (p : List Int × Int) (hp : vclock_Trim.f a = some p) (k : Nat) (hk : 60 ≤ k) :
    plaitlaw01_VclockTells.j2 k a g (atR a g).1 (atR a g).2 (tickR a g).1 (tickR a g).2 p.1 p.2 = some true := by
  obtain ⟨k, rfl⟩ : ∃ m, k = m + 1 := ⟨k - 1, by omega⟩
  rw [plaitlaw01_VclockTells.j2, refRight k a hal (by omega)]
  simp only [Option.bind_some]
  by_cases ha : vok a = true
  · rw [trim_ok a ha] at hp
    cases hp
    have h1 := vtrim_len a
    rw [if_pos ha, if_pos rfl, refTrim a (by omega) (fun i => (vok_getD ha i).1)]
    simp only [Option.bind_some]
    rw [rows_self _ k (by omega) (by omega)]
    exact tells_j3 a ha g k (by omega)
  · rw [trim_no a ha] at hp
    cases hp
    have e1 : atR a g = (0, 1) := by unfold atR; rw [if_neg ha]
    have e2 : tickR a g = ([], 1) := by unfold tickR; rw [e1]; rfl
    rw [if_neg ha, e1, e2]; simp
theorem VclockTells : plaitlaw01_VclockTells.Pure := by
  intro a b g _ _ _ _ _ _ _
  refine ⟨100, ?_⟩
  unfold plaitlaw01_VclockTells.f
  rw [few1, few1]
  simp only [Option.bind_some]
  have hal : (a.take 20).length ≤ 20 := by rw [List.length_take]; omega
  have hbl : (b.take 20).length ≤ 20 := by rw [List.length_take]; omega
  generalize a.take 20 = a at *
  generalize b.take 20 = b at *
  rw [at_R, tick_R]
  obtain ⟨p, hp⟩ : ∃ p, vclock_Trim.f a = some p := ⟨_, rfl⟩
  have tail := fun k hk => tells_j2 a hal g p hp k hk
  rw [hp, refRight 100 a hal (by omega), alive1 100 (by omega)]
  have hr : vclock_Right.f a = some (vok a) := rfl
  rw [hr]
  by_cases h : vok a = true ∧ vok b = true
  · obtain ⟨ha, hb⟩ := h
    have hl := vok_len (jT_ok a b ha hb)
    have el : vclock_Leq.f a b = some (leqB a (whole b) a.length, 0) := by
      unfold vclock_Leq.f; rw [ha, hb]; rfl
    rw [join_ok a b ha hb, el]
    simp only [Option.bind_some]
    rw [if_neg (by simp), plaitlaw01_VclockTells.j0, if_neg (by simp), refRight _ a hal (by omega), refRight _ b hbl (by omega)]
    simp only [Option.bind_some]
    rw [if_pos ha, hb, plaitlaw01_VclockTells.j1, if_neg (by simp), if_pos rfl, if_pos rfl, refJoin a b ha hb _ (by omega)]
    simp only [Option.bind_some]
    rw [rows_self _ _ (by omega) (by omega), refLeq a b ha hb _ (by omega)]
    simp only [Option.bind_some, if_true]
    rw [if_neg (by simp)]
    exact tail 98 (by omega)
  · rw [join_no a b h, leq_no a b h]
    simp only [Option.bind_some]
    rw [if_neg (by simp), plaitlaw01_VclockTells.j0, if_neg (by simp), refRight _ a hal (by omega), refRight _ b hbl (by omega)]
    simp only [Option.bind_some]
    have this : plaitlaw01_VclockTells.j1 99 a b g (atR a g).1 (atR a g).2 (tickR a g).1 (tickR a g).2 [] 1 false 1 p.1 p.2 true = some true := by
      rw [plaitlaw01_VclockTells.j1, if_pos rfl, if_pos rfl, if_pos rfl, if_pos (by simp), if_neg (by simp)]
      exact tail 98 (by omega)
    by_cases ha : vok a = true
    · have hb : vok b = false := by
        rw [Bool.eq_false_iff]; exact fun hb => h ⟨ha, hb⟩
      rw [if_pos ha, hb]; exact this
    · rw [if_neg ha]; exact this
end Go.Proofs.Ytipmoncamnafbaa.Pure
