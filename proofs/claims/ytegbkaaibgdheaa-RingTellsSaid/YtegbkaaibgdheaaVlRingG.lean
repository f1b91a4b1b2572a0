/- RingGrows and RingTells: the plain forms answer true. -/
import Derived.Test.YtegbkaaibgdheaaVlRing
import Derived.Test.YtegbkaaibgdheaaVxP
set_option linter.unusedVariables false
set_option linter.unusedSimpArgs false
namespace Go.Proofs.Ytegbkaaibgdheaa.VX.VxB_Ring
open Go.Proofs
theorem growLoop {n v : Int} {l : List Int} {k : Nat} (hk : k ≤ 8) (hv : IntKind.wrap .i64 v = v) : ∀ (i : Nat) (a : Rg), i ≤ k → rOK a → a.1 = n → a.2.2.2 + (k - i : Nat) ≤ n → ∃ b : Rg, loop L_plaitlaw04_RingGrows_11 (n, v, l, (k : Int), (i : Int), a) = some (.inr (n, v, l, b)) ∧ rOK b ∧ b.1 = n ∧ b.2.2.2 = a.2.2.2 + (k - i : Nat) ∧
    rItems b = rItems a ++ (List.range' i (k - i)).map (fun (j : Nat) => IntKind.wrap .i64 (v + (j : Int))) := by
  intro i a hi ha h1 h2
  induction h : k - i generalizing i a with
  | zero =>
    refine ⟨a, ?_, ha, h1, by omega, by simp⟩
    rw [loop_eq]
    unfold L_plaitlaw04_RingGrows_11
    simp only
    rw [bif_f (by simp; omega)]
  | succ d ih =>
    have hh := ha
    obtain ⟨q1, q2, q3, q4, q5, q6, q7⟩ := hh
    have hne : a.2.2.2 ≠ a.1 := by omega
    have hp := pushed_ok ha hne (IntKind.wrap .i64 (v + i))
    obtain ⟨b, b1, b2, b3, b4, b5⟩ := ih (i + 1) (pushed a (IntKind.wrap .i64 (v + i))) (by omega) hp h1 (by simp only [pushed]; omega) (by omega)
    refine ⟨b, ?_, b2, b3, ?_, ?_⟩
    · rw [loop_eq]
      unfold L_plaitlaw04_RingGrows_11
      simp only
      rw [bif_t (by simp; omega), push_eq, if_pos ha, if_neg hne]
      simp only [Option.bind_some]
      rw [bif_f (by rfl), wrapI (by omega) (by omega)]
      exact b1
    · rw [b4]; simp only [pushed]; omega
    · rw [b5, pushed_items ha hne, List.append_assoc]; rfl
theorem ringGrows (r : Rg) (n v : Int) (hn : -9223372036854775808 ≤ n ∧ n < 9223372036854775808) (hv : -9223372036854775808 ≤ v ∧ v < 9223372036854775808) : F_plaitlaw04_RingGrows (r, n, v) = some true := by
  unfold F_plaitlaw04_RingGrows
  simp only
  rw [few_eq r]
  simp only [Option.bind_some]
  generalize (r.1, r.2.1, r.2.2.1.take 12, r.2.2.2) = r'
  rw [items_eq, grow_eq]
  simp only [Option.bind_some]
  by_cases h : rOK r'
  · rw [if_pos h, if_pos h]
    rw [bif_f (by rfl)]
    by_cases hg : n < (rItems r').length ∨ n > 8
    · rw [if_pos hg, bif_t (by rfl), alive_eq]
      simp only [Option.bind_some]
      rw [bif_t (by rfl), empty_eq]; rfl
    · rw [if_neg hg, bif_f (by rfl)]
      rw [not_or] at hg
      have hle : ((rItems r').length : Int) ≤ n := by omega
      have hok := grown_ok h hle (by omega)
      have hlen := items_len r'
      have h8 : (rItems r').length ≤ 8 := by omega
      simp only
      rw [items_eq, if_pos hok, grown_items h hle]
      simp only [Option.bind_some]
      rw [bif_f (by rfl), rows_eq (by omega)]
      simp only [Option.bind_some]
      rw [bif_f (by simp), bif_f (by simp; omega), bif_f (by simp; omega), alive_eq]
      simp only [Option.bind_some]
      rw [bif_f (by rfl), wrapI (by omega) (by omega)]
      have hw : IntKind.wrap .i64 v = v := wrapI hv.1 hv.2
      obtain ⟨b, b1, b2, b3, b4, b5⟩ := growLoop (n := n) (l := rItems r') (k := (n - (rItems r').length).toNat) (by omega) hw 0 (grown r' n) (Nat.zero_le _) hok rfl (by simp only [grown]; omega)
      rw [show (((n - (rItems r').length).toNat : Nat) : Int) = n - (rItems r').length by omega] at b1
      rw [show loop L_plaitlaw04_RingGrows_11 (n, v, rItems r', n - (rItems r').length, (0 : Int), grown r' n) = _ from b1]
      simp only [Option.bind_some]
      have b4 : b.2.2.2 = n := by rw [b4]; simp only [grown]; omega
      rw [push_eq, pop_eq, if_pos b2, if_pos b2, if_pos (by omega : b.2.2.2 = b.1)]
      simp only [Option.bind_some]
      rw [grown_items h hle, Nat.sub_zero] at b5
      by_cases h0 : n = 0
      · rw [bif_t (by simpa using h0), bif_t (by rfl), if_pos (by omega : b.2.2.2 = 0)]; rfl
      · rw [bif_f (by simpa using h0), if_neg (by omega : ¬ b.2.2.2 = 0)]
        simp only
        have hpo := popped_ok b2 (by omega)
        have hpi := popped_items b2 (by omega)
        rw [items_eq, if_pos hpo]
        simp only [Option.bind_some]
        have hlen2 : (rItems (popped b)).length = n.toNat - 1 := by rw [items_len]; simp only [popped]; omega
        have hfin : (((rItems (popped b)).length : Int) == IntKind.wrap .i64 (n - 1)) = true := by
          rw [wrapI (by omega) (by omega)]; simp; omega
        rw [hpi] at b5
        by_cases hz : (rItems r').length = 0
        · have hz' : rItems r' = [] := List.length_eq_zero_iff.1 hz
          rw [hz'] at b5 ⊢
          rw [bif_f (by rfl), bif_t (by rfl), bif_t (by rfl), bif_t (by rfl)]
          have hf : first b = v := by
            obtain ⟨d, hd⟩ : ∃ d, (n - (([] : List Int).length : Int)).toNat = d + 1 := ⟨n.toNat - 1, by simp; omega⟩
            rw [hd, List.range'_succ] at b5
            simp only [List.nil_append, List.map_cons, List.cons.injEq] at b5
            rw [b5.1]
            show IntKind.wrap .i64 (v + (0 : Nat)) = v
            rw [show v + ((0 : Nat) : Int) = v by omega, hw]
          rw [bif_t (by simpa using hf), hfin]
        · obtain ⟨a, q, hc⟩ : ∃ a q, rItems r' = a :: q := by
            cases hx : rItems r' with
            | nil => exact absurd (by rw [hx]; rfl) hz
            | cons a q => exact ⟨a, q, rfl⟩
          rw [hc] at b5 ⊢
          have hf : first b = a := by simp only [List.cons_append, List.cons.injEq] at b5; exact b5.1
          rw [bif_t (by simp), bif_t (inbL.2 (by simp)), bif_t (by rfl), bif_t (by rfl), bif_t (by rfl), bif_t (by rw [hf]; simp [toN, getAt_eq]), hfin]
  · rw [if_neg h, if_neg h, bif_t (by rfl), alive_eq]
    simp only [Option.bind_some]
    rw [bif_t (by rfl), empty_eq]; rfl
theorem ringGrows_law (x : HL [(.pair (.int .i64) (.pair (.int .i64) (.pair (.slice (.int .i64)) (.int .i64)))), (.int .i64), (.int .i64)]) (h : wfHL [(.pair (.int .i64) (.pair (.int .i64) (.pair (.slice (.int .i64)) (.int .i64)))), (.int .i64), (.int .i64)] x) : F_plaitlaw04_RingGrows x = some true :=
  ringGrows x.1 x.2.1 x.2.2 (wfI h.2.1) (wfI h.2.2)
end Go.Proofs.Ytegbkaaibgdheaa.VX.VxB_Ring
