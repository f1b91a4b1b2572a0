/- Contracts of functions, and walks of laws, written by this session's own program (wip/tools/xprint.py, a driver round the kit's print) out of Lean's print of the loaded program. Lean checks them. -/
import Derived.Test.YtipmoncamnafbaaX0
import Derived.Test.YtipmoncamnafbaaX8
import Derived.Test.YtipmoncamnafbaaGiven
namespace Go.Proofs.Ytipmoncamnafbaa.X
open Go.RowKit Go.Proofs.YtipmoncamnafbaaW.PrintWords Go.Proofs.YtipmoncamnafbaaW.PrintLast Go.Proofs.YtipmoncamnafbaaW.PrintMore
attribute [local go_sem] max2_int min2_int max_two min_two max_three min_three max_four min_four   -- for this text's walks alone
set_option linter.unusedVariables false
set_option linter.unusedSimpArgs false

/-! ### plaitlaw03_VarintOrder: function 6 -/
def plaitlaw03_VarintOrder.j0 : Nat → Int → Int → Option (Bool)
  | 0, _, _ => none
  | k + 1, x0, x1 => (varint_Put.f x0).bind fun bt249 => ((varint_Put.f x1).bind fun bt251 => (if bt249.2 = 0 then (if bt251.2 = 0 then (if (bt249.1.size : Int) < 1 then (some false) else (if (bt249.1.size : Int) > (bt251.1.size : Int) then (some false) else (if ((bt249.1.toList == bt251.1.toList) != (x0 == x1)) = true then (some false) else ((plaitlaw03_alive.f k).bind fun t253 => (if t253 = true then (if x0 = x1 then (some true) else (if 0 ≤ (bt249.1.size : Int) then (if (bt249.1.size : Int) ≤ (bt251.1.size : Int) then (some ((bt251.1.extract 0 ((bt249.1.size : Int) : Int).toNat).toList != bt249.1.toList)) else (none)) else (none))) else (some false)))))) else (some false)) else (some false)))
def plaitlaw03_VarintOrder.f (k : Nat) (a0 : Int) (a1 : Int) : Option (Bool) := if (wrap64 (Int.tmod (IntKind.u64.wrap (a0)) 2147483648)) > (wrap64 (Int.tmod (IntKind.u64.wrap (a1)) 2147483648)) then (plaitlaw03_VarintOrder.j0 k (wrap64 (Int.tmod (IntKind.u64.wrap (a1)) 2147483648)) (wrap64 (Int.tmod (IntKind.u64.wrap (a0)) 2147483648))) else (plaitlaw03_VarintOrder.j0 k (wrap64 (Int.tmod (IntKind.u64.wrap (a0)) 2147483648)) (wrap64 (Int.tmod (IntKind.u64.wrap (a1)) 2147483648)))
theorem plaitlaw03_VarintOrder.mono_l : ∀ k, (∀ y0 y1, LeO (plaitlaw03_VarintOrder.j0 k y0 y1) (plaitlaw03_VarintOrder.j0 (k + 1) y0 y1))
  | 0 => fun _ _ r h => by simp [plaitlaw03_VarintOrder.j0] at h
  | k + 1 => by
    have ih0 := plaitlaw03_VarintOrder.mono_l k
    · intro y0 y1
      unfold plaitlaw03_VarintOrder.j0
      repeat' first
      | (with_reducible exact ih0 _ _)
      | (with_reducible exact plaitlaw03_alive.mono _)
      | (with_reducible exact LeO.refl _)
      | (with_reducible exact LeO.none _)
      | (with_reducible refine LeO.ite ?_ ?_)
      | (with_reducible refine LeO.bind ?_ (fun _ => ?_))
      | exact ih0 _ _
      | exact plaitlaw03_alive.mono _
      | exact LeO.none _
      | refine LeO.ite ?_ ?_
      | refine LeO.bind ?_ (fun _ => ?_)
theorem plaitlaw03_VarintOrder.mono : ∀ a0 a1 k, LeO (plaitlaw03_VarintOrder.f k a0 a1) (plaitlaw03_VarintOrder.f (k + 1) a0 a1) := by
  intro a0 a1 k
  have ih0 := plaitlaw03_VarintOrder.mono_l k
  unfold plaitlaw03_VarintOrder.f
  repeat' first
      | (with_reducible exact ih0 _ _)
      | (with_reducible exact plaitlaw03_alive.mono _)
      | (with_reducible exact LeO.refl _)
      | (with_reducible exact LeO.none _)
      | (with_reducible refine LeO.ite ?_ ?_)
      | (with_reducible refine LeO.bind ?_ (fun _ => ?_))
      | exact ih0 _ _
      | exact plaitlaw03_alive.mono _
      | exact LeO.none _
      | refine LeO.ite ?_ ?_
      | refine LeO.bind ?_ (fun _ => ?_)
set_option maxHeartbeats 8000000 in
set_option maxRecDepth 100000 in
theorem plaitlaw03_VarintOrder.calls (k : Nat) (a0 : Int) (a1 : Int) (r : Bool) (w : World) (h : plaitlaw03_VarintOrder.f k a0 a1 = some r) (hr_ : Aside0 (r = true)) :
    Calls Try.prog 6 #[.int .i64 a0, .int .i64 a1] w fun e w' => e = .returned (.bool r) ∧ Below w.heap.size w w' := by
  have HB := Aside0.mk (Below.refl w.heap.size w)
  have H : (if (wrap64 (Int.tmod (IntKind.u64.wrap (a0)) 2147483648)) > (wrap64 (Int.tmod (IntKind.u64.wrap (a1)) 2147483648)) then (plaitlaw03_VarintOrder.j0 k (wrap64 (Int.tmod (IntKind.u64.wrap (a1)) 2147483648)) (wrap64 (Int.tmod (IntKind.u64.wrap (a0)) 2147483648))) else (plaitlaw03_VarintOrder.j0 k (wrap64 (Int.tmod (IntKind.u64.wrap (a0)) 2147483648)) (wrap64 (Int.tmod (IntKind.u64.wrap (a1)) 2147483648)))) = some r := h
  clear h
  have HC3 := Aside0.mk H
  clear H
  go_enter Try.func6, Try.ntmps6
  go_upto_if 19 with (fail)
  go_cut [0, 1] (fun v0 v1 wc => ∃ (kq : Nat) (x0_2 : Int) (x1_2 : Int), v0 = .int .i64 x0_2 ∧ v1 = .int .i64 x1_2 ∧ Aside0 (plaitlaw03_VarintOrder.j0 kq x0_2 x1_2 = some r) ∧ Aside0 (kq ≤ k) ∧ Aside0 (Below w.heap.size w wc))
  case first =>
    have H := HC3.out
    clear HC3
    by_cases c4 : (wrap64 (Int.tmod (IntKind.u64.wrap (a0)) 2147483648)) > (wrap64 (Int.tmod (IntKind.u64.wrap (a1)) 2147483648))
    · rw [if_pos c4] at H
      have c4b0 : decide ((wrap64 (Int.tmod (IntKind.u64.wrap (a1)) 2147483648)) < (wrap64 (Int.tmod (IntKind.u64.wrap (a0)) 2147483648))) = true := decide_eq_true c4
      clear c4
      (first | rw [c4b0] | (simp only [i64_w, i32_w]; rw [c4b0]) | skip)
      have H' := Aside0.mk H
      clear H
      go_wp2
      go_meet
      case rel => exact ⟨_, (wrap64 (Int.tmod (IntKind.u64.wrap (a1)) 2147483648)), (wrap64 (Int.tmod (IntKind.u64.wrap (a0)) 2147483648)), (by first | rfl | (simp; done) | (simp [*]; done)), (by first | rfl | (simp; done) | (simp [*]; done)), H', ⟨by first | omega | exact Nat.le_refl _⟩, ⟨by repeat (first | (with_reducible first | exact HB.out | apply below_alloc | apply pw_below_drewN | apply below_drew1) | exact HB.out)⟩⟩
    · rw [if_neg c4] at H
      have c4b0 : decide ((wrap64 (Int.tmod (IntKind.u64.wrap (a1)) 2147483648)) < (wrap64 (Int.tmod (IntKind.u64.wrap (a0)) 2147483648))) = false := decide_eq_false c4
      clear c4
      (first | rw [c4b0] | (simp only [i64_w, i32_w]; rw [c4b0]) | skip)
      have H' := Aside0.mk H
      clear H
      go_wp2
      go_meet
      case rel => exact ⟨_, (wrap64 (Int.tmod (IntKind.u64.wrap (a0)) 2147483648)), (wrap64 (Int.tmod (IntKind.u64.wrap (a1)) 2147483648)), (by first | rfl | (simp; done) | (simp [*]; done)), (by first | rfl | (simp; done) | (simp [*]; done)), H', ⟨by first | omega | exact Nat.le_refl _⟩, ⟨by repeat (first | (with_reducible first | exact HB.out | apply below_alloc | apply pw_below_drewN | apply below_drew1) | exact HB.out)⟩⟩
  case rest =>
    clear HC3
    try clear p2
    try clear c4
    try clear c4b0
    obtain ⟨kq, x0_2, x1_2, rfl, rfl, HA, HJ2, HB⟩ := hcut
    cases kq with
    | zero => exact absurd HA.out (by simp [plaitlaw03_VarintOrder.j0])
    | succ kj2 =>
      have H := HA.out
      clear HA
      simp only [plaitlaw03_VarintOrder.j0] at H
      replace H := Option.bind_eq_some_iff.mp H
      obtain ⟨⟨t249, t250⟩, A50, H⟩ := H
      replace H : ((varint_Put.f x1_2).bind fun bt251 => (if t250 = 0 then (if bt251.2 = 0 then (if (t249.size : Int) < 1 then (some false) else (if (t249.size : Int) > (bt251.1.size : Int) then (some false) else (if ((t249.toList == bt251.1.toList) != (x0_2 == x1_2)) = true then (some false) else ((plaitlaw03_alive.f kj2).bind fun t253 => (if t253 = true then (if x0_2 = x1_2 then (some true) else (if 0 ≤ (t249.size : Int) then (if (t249.size : Int) ≤ (bt251.1.size : Int) then (some ((bt251.1.extract 0 ((t249.size : Int) : Int).toNat).toList != t249.toList)) else (none)) else (none))) else (some false)))))) else (some false)) else (some false))) = some r := H
      have A5 := Aside0.mk A50
      clear A50
      replace H := Option.bind_eq_some_iff.mp H
      obtain ⟨⟨t251, t252⟩, A60, H⟩ := H
      replace H : (if t250 = 0 then (if t252 = 0 then (if (t249.size : Int) < 1 then (some false) else (if (t249.size : Int) > (t251.size : Int) then (some false) else (if ((t249.toList == t251.toList) != (x0_2 == x1_2)) = true then (some false) else ((plaitlaw03_alive.f kj2).bind fun t253 => (if t253 = true then (if x0_2 = x1_2 then (some true) else (if 0 ≤ (t249.size : Int) then (if (t249.size : Int) ≤ (t251.size : Int) then (some ((t251.extract 0 ((t249.size : Int) : Int).toNat).toList != t249.toList)) else (none)) else (none))) else (some false)))))) else (some false)) else (some false)) = some r := H
      have A6 := Aside0.mk A60
      clear A60
      by_cases c7 : t250 = 0
      · rw [if_pos c7] at H
        have c7b0 : (t250 == 0) = true := beq_iff_eq.mpr c7
        have c7b1 : (t250 != 0) = false := bne_eq_false_iff_eq.mpr c7
        clear c7
        by_cases c8 : t252 = 0
        · rw [if_pos c8] at H
          have c8b0 : (t252 == 0) = true := beq_iff_eq.mpr c8
          have c8b1 : (t252 != 0) = false := bne_eq_false_iff_eq.mpr c8
          clear c8
          by_cases c9 : (t249.size : Int) < 1
          · rw [if_pos c9] at H
            have c9b0 : decide ((t249.size : Int) < 1) = true := decide_eq_true c9
            have c9b1 : decide (t249.size < 1) = true := decide_eq_true (by omega)
            clear c9
            exact absurd (Option.some.inj H) (by rw [hr_.out]; decide)
          · rw [if_neg c9] at H
            have c9b0 : decide ((t249.size : Int) < 1) = false := decide_eq_false c9
            have c9b1 : decide (t249.size < 1) = false := decide_eq_false (by omega)
            clear c9
            by_cases c10 : (t249.size : Int) > (t251.size : Int)
            · rw [if_pos c10] at H
              have c10b0 : decide ((t251.size : Int) < (t249.size : Int)) = true := decide_eq_true c10
              have c10b1 : decide (t251.size < t249.size) = true := decide_eq_true (Int.ofNat_lt.mp c10)
              clear c10
              exact absurd (Option.some.inj H) (by rw [hr_.out]; decide)
            · rw [if_neg c10] at H
              have c10b0 : decide ((t251.size : Int) < (t249.size : Int)) = false := decide_eq_false c10
              have c10b1 : decide (t251.size < t249.size) = false := decide_eq_false (fun h => c10 (Int.ofNat_lt.mpr h))
              clear c10
              by_cases c11 : ((t249.toList == t251.toList) != (x0_2 == x1_2)) = true
              · rw [if_pos c11] at H
                have c11b0 : ((t249.toList == t251.toList) != (x0_2 == x1_2)) = true := c11
                (try (have c11b1 : decide ((t249.toList == t251.toList) = (x0_2 == x1_2)) = false := by simpa using c11))
                (try (have c11b2 : ((t249.toList == t251.toList) == (x0_2 == x1_2)) = false := by simpa using c11))
                (try (have c11b3 : ¬ ((t249.toList == t251.toList) = (x0_2 == x1_2)) := by simpa using c11))
                clear c11
                exact absurd (Option.some.inj H) (by rw [hr_.out]; decide)
              · rw [if_neg c11] at H
                have c11b0 : ((t249.toList == t251.toList) != (x0_2 == x1_2)) = false := by simpa using c11
                (try (have c11b1 : decide ((t249.toList == t251.toList) = (x0_2 == x1_2)) = true := by simpa using c11))
                (try (have c11b2 : ((t249.toList == t251.toList) == (x0_2 == x1_2)) = true := by simpa using c11))
                clear c11
                replace H := Option.bind_eq_some_iff.mp H
                obtain ⟨t253, A120, H⟩ := H
                replace H : (if t253 = true then (if x0_2 = x1_2 then (some true) else (if 0 ≤ (t249.size : Int) then (if (t249.size : Int) ≤ (t251.size : Int) then (some ((t251.extract 0 ((t249.size : Int) : Int).toNat).toList != t249.toList)) else (none)) else (none))) else (some false)) = some r := H
                have A12 := Aside0.mk A120
                clear A120
                by_cases c13 : t253 = true
                · subst c13
                  have H1 : (if x0_2 = x1_2 then (some true) else (if 0 ≤ (t249.size : Int) then (if (t249.size : Int) ≤ (t251.size : Int) then (some ((t251.extract 0 ((t249.size : Int) : Int).toNat).toList != t249.toList)) else (none)) else (none))) = some r := by rw [if_pos rfl] at H; exact H
                  clear H
                  have H := H1
                  clear H1
                  by_cases c14 : x0_2 = x1_2
                  · rw [if_pos c14] at H
                    have c14b0 : (x0_2 == x1_2) = true := beq_iff_eq.mpr c14
                    have c14b1 : (x0_2 != x1_2) = false := bne_eq_false_iff_eq.mpr c14
                    have c14z : (t249.toList == t251.toList) = true := by rw [c14b0] at c11b2; simpa using c11b2
                    clear c14
                    obtain rfl := Option.some.inj H
                    go_wp2_with (first | ((with_reducible refine gate_callee (f := 23) rfl ?_); refine goesL_ (some 24) rfl rfl Try.func23 (by kernel_rfl) rfl #[.int .i64 x0_2] rfl (by (try simp only [List.map_toArray, List.map_cons, List.map_nil]); first | done | rfl | (simp only [List.length_drop, List.length_take]; rfl)) ?_; (with_reducible refine (varint_Put.calls x0_2 t249 t250 _ A5.out).mono ?_); rintro e w15 ⟨rfl, hb⟩; refine ⟨_, rfl, ?_⟩; have n0_ := Aside0.mk (below_step (by repeat (first | (with_reducible first | exact HB.out | apply below_alloc | apply pw_below_drewN | apply below_drew1) | exact HB.out)) hb); clear HB; have HB := n0_; clear n0_; (try clear hb); (try clear hb2); (try clear hk); (try clear hi)) | ((with_reducible refine gate_callee (f := 23) rfl ?_); refine goesL_ (some 29) rfl rfl Try.func23 (by kernel_rfl) rfl #[.int .i64 x1_2] rfl (by (try simp only [List.map_toArray, List.map_cons, List.map_nil]); first | done | rfl | (simp only [List.length_drop, List.length_take]; rfl)) ?_; (with_reducible refine (varint_Put.calls x1_2 t251 t252 _ A6.out).mono ?_); rintro e w16 ⟨rfl, hb⟩; refine ⟨_, rfl, ?_⟩; have n0_ := Aside0.mk (below_step (by repeat (first | (with_reducible first | exact HB.out | apply below_alloc | apply pw_below_drewN | apply below_drew1) | exact HB.out)) hb); clear HB; have HB := n0_; clear n0_; (try clear hb); (try clear hb2); (try clear hk); (try clear hi)) | (go_at_call 24; (with_reducible refine (plaitlaw03_alive.calls kj2  true _ A12.out).mono ?_); rintro e w17 ⟨rfl, hb⟩; have n0_ := Aside0.mk (below_step (by repeat (first | (with_reducible first | exact HB.out | apply below_alloc | apply pw_below_drewN | apply below_drew1) | exact HB.out)) hb); clear HB; have HB := n0_; clear n0_; (try clear hb); (try clear hb2); (try clear hk); (try clear hi)))
                    go_ret
                    exact ⟨by first | rfl | (simp [errW_none, errW_some] <;> rfl) | (simp [*, errW_none, errW_some] <;> rfl), by repeat (first | (with_reducible first | exact HB.out | apply below_alloc | apply pw_below_drewN | apply below_drew1) | exact HB.out)⟩
                  · rw [if_neg c14] at H
                    have c14b0 : (x0_2 == x1_2) = false := beq_eq_false_iff_ne.mpr c14
                    have c14b1 : (x0_2 != x1_2) = true := bne_iff_ne.mpr c14
                    have c14z : (t249.toList == t251.toList) = false := by rw [c14b0] at c11b2; simpa using c11b2
                    by_cases c18 : 0 ≤ (t249.size : Int)
                    · rw [if_pos c18] at H
                      have c18b0 := eq_true c18
                      have c18b1 : decide (0 ≤ (t249.size : Int)) = true := decide_eq_true c18
                      clear c18
                      by_cases c19 : (t249.size : Int) ≤ (t251.size : Int)
                      · rw [if_pos c19] at H
                        have c19b0 := eq_true c19
                        have c19b1 : decide ((t249.size : Int) ≤ (t251.size : Int)) = true := decide_eq_true c19
                        clear c19
                        obtain rfl := Option.some.inj H
                        go_wp2_with (first | ((with_reducible refine gate_callee (f := 23) rfl ?_); refine goesL_ (some 24) rfl rfl Try.func23 (by kernel_rfl) rfl #[.int .i64 x0_2] rfl (by (try simp only [List.map_toArray, List.map_cons, List.map_nil]); first | done | rfl | (simp only [List.length_drop, List.length_take]; rfl)) ?_; (with_reducible refine (varint_Put.calls x0_2 t249 t250 _ A5.out).mono ?_); rintro e w20 ⟨rfl, hb⟩; refine ⟨_, rfl, ?_⟩; have n0_ := Aside0.mk (below_step (by repeat (first | (with_reducible first | exact HB.out | apply below_alloc | apply pw_below_drewN | apply below_drew1) | exact HB.out)) hb); clear HB; have HB := n0_; clear n0_; (try clear hb); (try clear hb2); (try clear hk); (try clear hi)) | ((with_reducible refine gate_callee (f := 23) rfl ?_); refine goesL_ (some 29) rfl rfl Try.func23 (by kernel_rfl) rfl #[.int .i64 x1_2] rfl (by (try simp only [List.map_toArray, List.map_cons, List.map_nil]); first | done | rfl | (simp only [List.length_drop, List.length_take]; rfl)) ?_; (with_reducible refine (varint_Put.calls x1_2 t251 t252 _ A6.out).mono ?_); rintro e w21 ⟨rfl, hb⟩; refine ⟨_, rfl, ?_⟩; have n0_ := Aside0.mk (below_step (by repeat (first | (with_reducible first | exact HB.out | apply below_alloc | apply pw_below_drewN | apply below_drew1) | exact HB.out)) hb); clear HB; have HB := n0_; clear n0_; (try clear hb); (try clear hb2); (try clear hk); (try clear hi)) | (go_at_call 24; (with_reducible refine (plaitlaw03_alive.calls kj2  true _ A12.out).mono ?_); rintro e w22 ⟨rfl, hb⟩; have n0_ := Aside0.mk (below_step (by repeat (first | (with_reducible first | exact HB.out | apply below_alloc | apply pw_below_drewN | apply below_drew1) | exact HB.out)) hb); clear HB; have HB := n0_; clear n0_; (try clear hb); (try clear hb2); (try clear hk); (try clear hi)))
                        go_ret
                        exact ⟨by first | rfl | (simp [errW_none, errW_some] <;> rfl) | (simp [*, errW_none, errW_some] <;> rfl), by repeat (first | (with_reducible first | exact HB.out | apply below_alloc | apply pw_below_drewN | apply below_drew1) | exact HB.out)⟩
                      · rw [if_neg c19] at H
                        exact absurd H (by simp)
                    · rw [if_neg c18] at H
                      exact absurd H (by simp)
                · replace c13 := Bool.eq_false_iff.mpr c13
                  subst c13
                  have H1 : (some false) = some r := by rw [if_neg (show ¬ (false = true) by decide)] at H; exact H
                  clear H
                  have H := H1
                  clear H1
                  exact absurd (Option.some.inj H) (by rw [hr_.out]; decide)
        · rw [if_neg c8] at H
          have c8b0 : (t252 == 0) = false := beq_eq_false_iff_ne.mpr c8
          have c8b1 : (t252 != 0) = true := bne_iff_ne.mpr c8
          exact absurd (Option.some.inj H) (by rw [hr_.out]; decide)
      · rw [if_neg c7] at H
        have c7b0 : (t250 == 0) = false := beq_eq_false_iff_ne.mpr c7
        have c7b1 : (t250 != 0) = true := bne_iff_ne.mpr c7
        exact absurd (Option.some.inj H) (by rw [hr_.out]; decide)

/-- THE ONE PURE STATEMENT of plaitlaw03_VarintOrder: yours. -/
def plaitlaw03_VarintOrder.Pure : Prop := ∀ (a0 : Int) (a1 : Int), (Lit.int .i64 a0).wf = true → (Lit.int .i64 a1).wf = true → ∃ k, plaitlaw03_VarintOrder.f k a0 a1 = some true
theorem plaitlaw03_VarintOrder.walk (P : plaitlaw03_VarintOrder.Pure) (a0 : Int) (a1 : Int) (w : World) (w0 : (Lit.int .i64 a0).wf = true) (w1 : (Lit.int .i64 a1).wf = true) :
    Calls Try.prog 6 #[.int .i64 a0, .int .i64 a1] w fun e w' => e = .returned (.bool true) ∧ Below w.heap.size w w' := by
  obtain ⟨k, h⟩ := P a0 a1 w0 w1
  refine (plaitlaw03_VarintOrder.calls k a0 a1 true w h ⟨rfl⟩).mono ?_
  rintro e w' ⟨rfl, hd⟩
  exact ⟨rfl, hd⟩

end Go.Proofs.Ytipmoncamnafbaa.X
