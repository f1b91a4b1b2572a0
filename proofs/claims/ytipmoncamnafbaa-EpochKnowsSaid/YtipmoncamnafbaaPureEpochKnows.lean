/- The plain side of EpochKnows: what is packed is unpacked as it was; an epoch is known just if its own tick alone is at most the clock; who ticks knows the epoch, and did not ahead. For all clocks and numbers. -/
import Derived.Test.YtipmoncamnafbaaX6
import Derived.Test.YtipmoncamnafbaaPl3
set_option linter.unusedVariables false
set_option linter.unusedSimpArgs false
namespace Go.Proofs.Ytipmoncamnafbaa.Pure
open Go.RowKit Go.Proofs.Ytipmoncamnafbaa.X Go.Proofs.YtipmoncamnafbaaW.PrintWords Go.Proofs.YtipmoncamnafbaaW.PrintLast

theorem tick_norm (a : Int) : ∃ t : Int, wrap64 (Int.tmod (IntKind.u64.wrap a) 1099511627776) = t ∧ 0 ≤ t ∧ t < 1099511627776 := by
  have e : IntKind.u64.wrap a = a % 18446744073709551616 := by simp [IntKind.wrap, IntKind.bits, IntKind.signed]
  refine ⟨_, rfl, ?_⟩
  rw [e, tmod_cases, if_pos (by omega), wrap64_id (by omega) (by omega)]
  omega
theorem gor_norm (a : Int) : ∃ g : Int, Int.tmod (wrap64 (Int.tmod a 16 + 16)) 16 = g ∧ 0 ≤ g ∧ g < 16 := by
  refine ⟨_, rfl, ?_⟩
  have h : -16 < Int.tmod a 16 ∧ Int.tmod a 16 < 16 := by
    rw [tmod_cases]; split <;> omega
  rw [wrap64_id (by omega) (by omega), tmod_cases, if_pos (by omega)]
  omega
theorem only_leq (c : List Int) (t : Int) (g : Nat) (hg : g < 16) (h1 : 0 ≤ t) (hc : vok c = true) :
    leqB ((List.replicate 16 (0 : Int)).set g t) (whole c) 16 = decide (t ≤ (whole c).getD g 0) := by
  rw [Bool.eq_iff_iff]
  simp only [leqB, List.all_eq_true, List.mem_range, decide_eq_true_eq]
  constructor
  · intro h
    have := h g hg
    rw [set_getD _ _ _ _ (by simp; exact hg), if_pos rfl] at this
    exact this
  · intro h i hi
    rw [set_getD _ _ _ _ (by simp; exact hg)]
    by_cases hgi : g = i
    · subst hgi; rw [if_pos rfl]; exact h
    · rw [if_neg hgi, whole_getD]
      have := (vok_getD hc i).1
      have e : (List.replicate 16 (0 : Int)).getD i 0 = 0 := by rw [List.getD_eq_getElem?_getD, List.getElem?_replicate, if_pos hi]; rfl
      rw [e]; exact this
theorem only_ok (t : Int) (g : Nat) (h1 : 0 ≤ t) (h2 : t < 1099511627776) : vok ((List.replicate 16 (0 : Int)).set g t) = true := by
  rw [vok_iff]
  refine ⟨by simp, set_all (by decide) g t (tick_iff.2 ⟨h1, by omega⟩)⟩

theorem EpochKnows : plaitlaw02_EpochKnows.Pure := by
  intro l a1 a2 _ _ _ _ _
  obtain ⟨t, ht, ht0, ht1⟩ := tick_norm a1
  obtain ⟨g', hg, hg0, hg1⟩ := gor_norm a2
  obtain ⟨g, rfl⟩ : ∃ g : Nat, g' = g := ⟨g'.toNat, by omega⟩
  refine ⟨100, ?_⟩
  unfold plaitlaw02_EpochKnows.f
  rw [few2, ht, hg]
  simp only [Option.bind_some]
  have hc : (l.take 20).length ≤ 20 := by simp; omega
  generalize l.take 20 = c at *
  have e1 : (16 * t + (g : Int)) / 16 = t := by omega
  have e2 : (16 * t + (g : Int)) % 16 = g := by omega
  rw [pack_in 99 t g ht0 (by omega) hg0 (by omega)]
  simp only [Option.bind_some]
  rw [unpack_in _ (by omega) (by omega), e1, e2, alive2 99]
  simp only [Option.bind_some, if_true, Bool.not_true]
  rw [plaitlaw02_EpochKnows.j0, if_neg (by decide), known_in _ c (by omega) (by omega), e1, e2]
  simp only [Option.bind_some]
  rw [if_pos (show 16 ≤ 35184372088832 by decide)]
  rw [if_pos hg0, if_pos (show (g : Int) < ((List.replicate 16 (0 : Int)).length : Int) by simp; omega)]
  unfold vclock_Leq.f
  simp only [Option.bind_some, Int.toNat_natCast]
  rw [only_ok t g ht0 ht1, Bool.true_and]
  by_cases hv : vok c = true
  · rw [if_pos hv, if_pos hv, if_pos rfl, if_pos rfl]
    rw [show ((List.replicate 16 (0 : Int)).set g t).length = 16 by simp, only_leq c t g (by omega) ht0 hv, bne_self_eq_false]
    rw [plaitlaw02_EpochKnows.j1, if_neg (by decide), at_in c g hg0 (by omega), if_pos hv]
    simp only [Option.bind_some, Int.toNat_natCast]
    unfold vclock_Tick.f
    rw [at_in c g hg0 (by omega), if_pos hv]
    simp only [Option.map_some, Option.bind_some, Int.toNat_natCast, if_true]
    have hn := vok_getD hv g
    rw [← whole_getD] at hn
    have hwl := whole_len c (vok_iff.1 hv).1
    have hwa := whole_all hv
    have hwg : (whole c).getD g 0 = c.getD g 0 := whole_getD c g
    generalize hN : (whole c).getD g 0 = n at *
    by_cases hmax : n = 1099511627776
    · rw [if_pos hmax, plaitlaw02_EpochKnows.j2, if_pos (by decide)]; rfl
    · rw [if_neg hmax, plaitlaw02_EpochKnows.j2, if_neg (by simp), wrap64_id (a := n + 1) (by omega) (by omega), pack_in 96 (n + 1) g (by omega) (by omega) hg0 (by omega)]
      simp only [Option.bind_some]
      have e3 : (16 * (n + 1) + (g : Int)) / 16 = n + 1 := by omega
      have e4 : (16 * (n + 1) + (g : Int)) % 16 = g := by omega
      rw [known_in _ _ (by omega) (by omega), known_in _ _ (by omega) (by omega), e3, e4]
      have hnext : vok (vtrim ((whole c).set g (n + 1))) = true := vok_vtrim (by simp [hwl]) (set_all hwa g _ (tick_iff.2 ⟨by omega, by omega⟩))
      rw [if_pos hnext, if_pos hv, Int.toNat_natCast, whole_getD, vtrim_getD, set_getD _ _ _ _ (by omega), if_pos rfl, hN]
      simp
      omega
  · rw [if_neg hv, if_neg hv]
    rfl
end Go.Proofs.Ytipmoncamnafbaa.Pure
