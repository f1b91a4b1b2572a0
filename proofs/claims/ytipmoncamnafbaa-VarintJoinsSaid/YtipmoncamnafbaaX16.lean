/- Contracts of functions, and walks of laws, written by this session's own program (wip/tools/xprint.py, a driver round the kit's print) out of Lean's print of the loaded program. Lean checks them. -/
import Derived.Test.YtipmoncamnafbaaX0
import Derived.Test.YtipmoncamnafbaaX8
import Derived.Test.YtipmoncamnafbaaX13
namespace Go.Proofs.Ytipmoncamnafbaa.X
open Go.RowKit Go.Proofs.YtipmoncamnafbaaW.PrintWords Go.Proofs.YtipmoncamnafbaaW.PrintLast Go.Proofs.YtipmoncamnafbaaW.PrintMore
attribute [local go_sem] max2_int min2_int max_two min_two max_three min_three max_four min_four   -- for this text's walks alone
set_option linter.unusedVariables false
set_option linter.unusedSimpArgs false

/-! ### plaitlaw03_VarintJoins: function 13 -/
mutual
def plaitlaw03_VarintJoins.l0 : Nat → List Int → Int → List Int → List Int → Int → Int → Option (Bool)
  | 0, _, _, _, _, _, _ => none
  | k + 1, x1, x2, x7, x30, x31, x32 => if x32 < x31 then (if 0 ≤ x32 then (if x32 < (x30.length : Int) then (if x7.length < 17592186044416 then (plaitlaw03_VarintJoins.l0 k x1 x2 (x7 ++ [wrap64 (Int.tmod (IntKind.u64.wrap (rd x30 x32)) 2147483648)]) x30 x31 (wrap64 (x32 + 1))) else (none)) else (none)) else (none)) else (if 0 ≤ (mn (x1.length : Int) 30) then (if (mn (x1.length : Int) 30) ≤ (x1.length : Int) then (plaitlaw03_VarintJoins.l1 k x2 x7 ([] : List Int) (x1.take ((mn (x1.length : Int) 30) : Int).toNat) ((x1.take ((mn (x1.length : Int) 30) : Int).toNat).length : Int) 0) else (none)) else (none))
def plaitlaw03_VarintJoins.l1 : Nat → Int → List Int → List Int → List Int → Int → Int → Option (Bool)
  | 0, _, _, _, _, _, _ => none
  | k + 1, x2, x7, x8, x48, x49, x50 => if x50 < x49 then (if 0 ≤ x50 then (if x50 < (x48.length : Int) then (if x8.length < 17592186044416 then (plaitlaw03_VarintJoins.l1 k x2 x7 (x8 ++ [wrap64 (Int.tmod (IntKind.u64.wrap (rd x48 x50)) 2147483648)]) x48 x49 (wrap64 (x50 + 1))) else (none)) else (none)) else (none)) else ((some (([] : List Int) : List Int)).bind fun y344 => (if y344.length + x7.length < 17592186044416 then ((some (y344 ++ x7 : List Int)).bind fun y347 => (if y347.length + x8.length < 17592186044416 then ((some (y347 ++ x8 : List Int)).bind fun y350 => ((varint_All.f k x7).bind fun bt353 => ((varint_All.f k x8).bind fun bt355 => ((varint_All.f k y350).bind fun bt357 => (if bt353.1.size + bt355.1.size ≤ 9223372036854775807 then ((varint_Every.f k (bt353.1 ++ bt355.1)).bind fun bt359 => ((varint_Sign.f (wrap64 ((wrap64 (Int.tmod (IntKind.u64.wrap (x2)) 2147483648)) - 1073741824))).bind fun bt363 => ((varint_Every.f k bt363.1).bind fun bt365 => ((plaitlaw03_alive.f k).bind fun t369 => (if t369 = true then (if bt353.2 = 0 then (if bt355.2 = 0 then (if bt357.2 = 0 then (if bt359.2 = 0 then (if bt363.2 = 0 then (if bt365.2 = 0 then (if bt357.1.toList = (bt353.1 ++ bt355.1).toList then ((plaitref01_Rows.f k bt359.1 y350).bind fun t370 => (if t370 = true then (if (bt365.1.length : Int) = 1 then (if 0 < (bt365.1.length : Int) then (some (((Int.tmod (rd bt365.1 0) 2) == 1) == (decide ((wrap64 ((wrap64 (Int.tmod (IntKind.u64.wrap (x2)) 2147483648)) - 1073741824)) < 0)))) else (none)) else (some false)) else (some false))) else (some false)) else (some false)) else (some false)) else (some false)) else (some false)) else (some false)) else (some false)) else (some false)))))) else (none)))))) else (none))) else (none)))
end
def plaitlaw03_VarintJoins.f (k : Nat) (l0 : List Int) (l1 : List Int) (a2 : Int) : Option (Bool) := if 0 ≤ (mn (l0.length : Int) 30) then (if (mn (l0.length : Int) 30) ≤ (l0.length : Int) then (plaitlaw03_VarintJoins.l0 k l1 a2 ([] : List Int) (l0.take ((mn (l0.length : Int) 30) : Int).toNat) ((l0.take ((mn (l0.length : Int) 30) : Int).toNat).length : Int) 0) else (none)) else (none)
theorem plaitlaw03_VarintJoins.mono_l : ∀ k, (∀ y0 y1 y2 y3 y4 y5, LeO (plaitlaw03_VarintJoins.l0 k y0 y1 y2 y3 y4 y5) (plaitlaw03_VarintJoins.l0 (k + 1) y0 y1 y2 y3 y4 y5)) ∧ (∀ y0 y1 y2 y3 y4 y5, LeO (plaitlaw03_VarintJoins.l1 k y0 y1 y2 y3 y4 y5) (plaitlaw03_VarintJoins.l1 (k + 1) y0 y1 y2 y3 y4 y5))
  | 0 => ⟨fun _ _ _ _ _ _ r h => by simp [plaitlaw03_VarintJoins.l0] at h, fun _ _ _ _ _ _ r h => by simp [plaitlaw03_VarintJoins.l1] at h⟩
  | k + 1 => by
    obtain ⟨ih0, ih1⟩ := plaitlaw03_VarintJoins.mono_l k
    refine ⟨?_, ?_⟩
    · intro y0 y1 y2 y3 y4 y5
      unfold plaitlaw03_VarintJoins.l0
      repeat' first
      | (with_reducible exact ih0 _ _ _ _ _ _)
      | (with_reducible exact ih1 _ _ _ _ _ _)
      | (with_reducible exact plaitlaw03_alive.mono _)
      | (with_reducible exact plaitref01_Rows.mono _ _ _)
      | (with_reducible exact varint_All.mono _ _)
      | (with_reducible exact varint_Every.mono _ _)
      | (with_reducible exact LeO.refl _)
      | (with_reducible exact LeO.none _)
      | (with_reducible refine LeO.ite ?_ ?_)
      | (with_reducible refine LeO.bind ?_ (fun _ => ?_))
      | exact ih0 _ _ _ _ _ _
      | exact ih1 _ _ _ _ _ _
      | exact plaitlaw03_alive.mono _
      | exact plaitref01_Rows.mono _ _ _
      | exact varint_All.mono _ _
      | exact varint_Every.mono _ _
      | exact LeO.none _
      | refine LeO.ite ?_ ?_
      | refine LeO.bind ?_ (fun _ => ?_)
    · intro y0 y1 y2 y3 y4 y5
      unfold plaitlaw03_VarintJoins.l1
      repeat' first
      | (with_reducible exact ih0 _ _ _ _ _ _)
      | (with_reducible exact ih1 _ _ _ _ _ _)
      | (with_reducible exact plaitlaw03_alive.mono _)
      | (with_reducible exact plaitref01_Rows.mono _ _ _)
      | (with_reducible exact varint_All.mono _ _)
      | (with_reducible exact varint_Every.mono _ _)
      | (with_reducible exact LeO.refl _)
      | (with_reducible exact LeO.none _)
      | (with_reducible refine LeO.ite ?_ ?_)
      | (with_reducible refine LeO.bind ?_ (fun _ => ?_))
      | exact ih0 _ _ _ _ _ _
      | exact ih1 _ _ _ _ _ _
      | exact plaitlaw03_alive.mono _
      | exact plaitref01_Rows.mono _ _ _
      | exact varint_All.mono _ _
      | exact varint_Every.mono _ _
      | exact LeO.none _
      | refine LeO.ite ?_ ?_
      | refine LeO.bind ?_ (fun _ => ?_)
theorem plaitlaw03_VarintJoins.mono : ∀ a0 a1 a2 k, LeO (plaitlaw03_VarintJoins.f k a0 a1 a2) (plaitlaw03_VarintJoins.f (k + 1) a0 a1 a2) := by
  intro a0 a1 a2 k
  obtain ⟨ih0, ih1⟩ := plaitlaw03_VarintJoins.mono_l k
  unfold plaitlaw03_VarintJoins.f
  repeat' first
      | (with_reducible exact ih0 _ _ _ _ _ _)
      | (with_reducible exact ih1 _ _ _ _ _ _)
      | (with_reducible exact plaitlaw03_alive.mono _)
      | (with_reducible exact plaitref01_Rows.mono _ _ _)
      | (with_reducible exact varint_All.mono _ _)
      | (with_reducible exact varint_Every.mono _ _)
      | (with_reducible exact LeO.refl _)
      | (with_reducible exact LeO.none _)
      | (with_reducible refine LeO.ite ?_ ?_)
      | (with_reducible refine LeO.bind ?_ (fun _ => ?_))
      | exact ih0 _ _ _ _ _ _
      | exact ih1 _ _ _ _ _ _
      | exact plaitlaw03_alive.mono _
      | exact plaitref01_Rows.mono _ _ _
      | exact varint_All.mono _ _
      | exact varint_Every.mono _ _
      | exact LeO.none _
      | refine LeO.ite ?_ ?_
      | refine LeO.bind ?_ (fun _ => ?_)
set_option maxHeartbeats 8000000 in
set_option maxRecDepth 100000 in
theorem plaitlaw03_VarintJoins.calls (k : Nat) (A0 : Option Addr) (c0 : Nat) (l0 : List Int) (A1 : Option Addr) (c1 : Nat) (l1 : List Int) (a2 : Int) (r : Bool) (w : World) (hr0 : Kd.C (Kd.int .i64) w A0 l0.length l0) (hc0 : l0.length ≤ c0) (hr1 : Kd.C (Kd.int .i64) w A1 l1.length l1) (hc1 : l1.length ≤ c1) (h : plaitlaw03_VarintJoins.f k l0 l1 a2 = some r) (hr_ : Aside0 (r = true)) :
    Calls Try.prog 13 #[.slice A0 l0.length c0, .slice A1 l1.length c1, .int .i64 a2] w fun e w' => e = .returned (.bool r) ∧ Below w.heap.size w w' := by
  have HR0 := Aside0.mk hr0
  have HC0 := Aside0.mk hc0
  clear hr0 hc0
  have HR1 := Aside0.mk hr1
  have HC1 := Aside0.mk hc1
  clear hr1 hc1
  have HB := Aside0.mk (Below.refl w.heap.size w)
  have H : (if 0 ≤ (mn (l0.length : Int) 30) then (if (mn (l0.length : Int) 30) ≤ (l0.length : Int) then (plaitlaw03_VarintJoins.l0 k l1 a2 ([] : List Int) (l0.take ((mn (l0.length : Int) 30) : Int).toNat) ((l0.take ((mn (l0.length : Int) 30) : Int).toNat).length : Int) 0) else (none)) else (none)) = some r := h
  clear h
  obtain ⟨ji4, hji4⟩ : ∃ j_ : Int, (mn (l0.length : Int) 30) = j_ := ⟨_, rfl⟩
  replace H : (if 0 ≤ (ji4) then (if (ji4) ≤ (l0.length : Int) then (plaitlaw03_VarintJoins.l0 k l1 a2 ([] : List Int) (l0.take ((ji4) : Int).toNat) ((l0.take ((ji4) : Int).toNat).length : Int) 0) else (none)) else (none)) = some r := by first | (rw [hji4] at H; exact H) | (simp only [hji4] at H ⊢; exact H)
  (try (have hji4h : ji4 ≤ 30 := by (rw [← hji4]; unfold mn; (repeat' split) <;> omega)))
  (try (have hji4g : ji4 ≤ 64 := by omega))
  (try (have hji4l : 0 ≤ ji4 := by (rw [← hji4]; unfold mn; (repeat' split) <;> omega)))
  (try (have hji4m : 0 ≤ ji4 := by omega))
  have hji4_ : (if 30 < (l0.length : Int) then 30 else (l0.length : Int)) = ji4 := hji4
  by_cases c5 : 0 ≤ (ji4)
  · rw [if_pos c5] at H
    have c5b0 := eq_true c5
    have c5b1 : decide (0 ≤ (ji4)) = true := decide_eq_true c5
    clear c5
    by_cases c6 : (ji4) ≤ (l0.length : Int)
    · rw [if_pos c6] at H
      have c6b0 := eq_true c6
      have c6b1 : decide ((ji4) ≤ (l0.length : Int)) = true := decide_eq_true c6
      clear c6
      have H' := Aside0.mk H
      clear H
      obtain ⟨i07, hi07, _, hsz7, _⟩ := info_parts info3
      obtain ⟨hcut7, hA7, hC7⟩ := print_take_of (P := Try.prog) (Value.int .i64) 0 28 3 .i64 Try.underlying28 hi07 hsz7 A0 c0 l0 (ji4) (of_decide_eq_true (by first | (with_reducible assumption) | assumption)) (of_decide_eq_true (by first | (with_reducible assumption) | assumption)) HC0.out
      have HR334 := Aside0.mk (Kd.C_of_reads (h1 := fun _ => rfl) (hA7 _ (Kd.reads_of_C HR0.out)))
      have HC334 := Aside0.mk hC7
      clear hA7 hC7 hi07 hsz7
      go_enter Try.func13, Try.ntmps13
      go_wp2
      go_loopg [7, 32] k (fun kq v7 v32 w' => ∃ (x7_1 : List Int) (x32_1 : Int), v32 = .int .i64 x32_1 ∧ Aside0 (plaitlaw03_VarintJoins.l0 kq l1 a2 x7_1 (l0.take ((ji4) : Int).toNat) ((l0.take ((ji4) : Int).toNat).length : Int) x32_1 = some r) ∧ Aside0 (kq ≤ k) ∧ Aside0 (Kd.R (Kd.int .i64) 3 w' w.heap.size (fun _ => True) v7 x7_1) ∧ Aside0 (Below w.heap.size w w'))
      case atStart => exact ⟨(([] : List Int)), (0), (by first | rfl | (simp; done) | (simp [*]; done)), H', ⟨Nat.le_refl _⟩, ⟨by first | exact Kd.R_nil _ _ _ _ _ | exact Kd.N_nil _ _ _ _ _ | exact Kd.V_nil _ _ _ _ _ | exact Kd.Q_nil _ _ _ _ _ | exact Kd.S_nil _ _ _ _ _⟩, ⟨by repeat (first | (with_reducible first | exact HB.out | apply below_alloc | apply pw_below_drewN | apply below_drew1) | exact HB.out)⟩⟩
      case round =>
        clear H'
        try clear c1
        try clear p2
        try clear c5
        try clear c5b0
        try clear c5b1
        try clear c6
        try clear c6b0
        try clear c6b1
        obtain ⟨x7_1, x32_1, rfl, HA, HK1, HO_7, HB⟩ := hrel
        cases gk with
        | zero => exact absurd HA.out (by simp [plaitlaw03_VarintJoins.l0])
        | succ k1 =>
          have H := HA.out
          clear HA
          simp only [plaitlaw03_VarintJoins.l0] at H
          by_cases c8 : x32_1 < ((l0.take ((ji4) : Int).toNat).length : Int)
          · rw [if_pos c8] at H
            have c8b0 : decide (x32_1 < ((l0.take ((ji4) : Int).toNat).length : Int)) = true := decide_eq_true c8
            (try (have c8b0m : decide (x32_1 < max ji4 0) = true := by have e_ := hji4_; have e2_ : ((l0.take ((ji4) : Int).toNat).length : Int) = max ji4 0 := (by (rw [List.length_take]; split at e_ <;> omega)); rw [← e2_]; exact c8b0))
            clear c8
            by_cases c9 : 0 ≤ x32_1
            · rw [if_pos c9] at H
              have c9b0 : decide (0 ≤ x32_1) = true := decide_eq_true c9
              clear c9
              by_cases c10 : x32_1 < ((l0.take ((ji4) : Int).toNat).length : Int)
              · rw [if_pos c10] at H
                have c10b0 : decide (x32_1 < ((l0.take ((ji4) : Int).toNat).length : Int)) = true := decide_eq_true c10
                (try (have c10b0m : decide (x32_1 < max ji4 0) = true := by have e_ := hji4_; have e2_ : ((l0.take ((ji4) : Int).toNat).length : Int) = max ji4 0 := (by (rw [List.length_take]; split at e_ <;> omega)); rw [← e2_]; exact c10b0))
                clear c10
                by_cases c11 : x7_1.length < 17592186044416
                · rw [if_pos c11] at H
                  have LMc11 := Aside0.mk c11
                  clear c11
                  obtain ⟨y336, hy336⟩ : ∃ y_ : List Int, y_ = (x7_1 ++ [wrap64 (Int.tmod (IntKind.u64.wrap (rd (l0.take ((ji4) : Int).toNat) x32_1)) 2147483648)]) := ⟨_, rfl⟩
                  replace H : (plaitlaw03_VarintJoins.l0 k1 l1 a2 y336 (l0.take ((ji4) : Int).toNat) ((l0.take ((ji4) : Int).toNat).length : Int) (wrap64 (x32_1 + 1))) = some r := by first | (rw [hy336]; with_reducible exact H) | (have H2_ := (Option.bind_some _ _).symm.trans H; rw [hy336]; with_reducible exact H2_) | (have H2_ := (Option.bind_some _ _).symm.trans H; with_reducible exact H2_) | with_reducible exact H | (rw [hy336]; exact H) | exact H
                  have Ny336 := Aside0.mk hy336
                  clear hy336
                  have H' := Aside0.mk H
                  clear H
                  have p335 : 0 ≤ (x32_1 : Int) := of_decide_eq_true (by first | (with_reducible assumption) | assumption)
                  have q335 : x32_1 < ((l0.take ((ji4) : Int).toNat).length : Int) := of_decide_eq_true (by first | (with_reducible assumption) | assumption)
                  (try (have q335m : (x32_1 < max ji4 0) = True := by have e_ := hji4_; have e2_ : ((l0.take ((ji4) : Int).toNat).length : Int) = max ji4 0 := (by (rw [List.length_take]; split at e_ <;> omega)); rw [← e2_]; exact eq_true q335))
                  obtain ⟨ad335, e335, hx335_0⟩ := Kd.at_int HR334.out x32_1 p335 q335
                  cases e335
                  replace hx335_0 := (HB.out.cell (World.block_lt_of_cell? w _ hx335_0)).trans hx335_0
                  replace p335 := eq_true p335
                  replace q335 := eq_true q335
                  go_wp2_with (first | ((with_reducible refine gate_builtin (b := .append) (xs := #[.tmp 36, .tmp 41]) rfl ?_); (try (refine gate_guard (by rfl) ?_; dsimp only)); at_builtin; refine Kd.R_append (Kd.int .i64) (w0 := w) w.heap.size rfl (.tmp 36) (.tmp 41) 28 3 (.int .i64 0) 8 rfl Try.underlying28 info3 rfl (by decide) (by omega) u7 x7_1 (wrap64 (Int.tmod (IntKind.u64.wrap (rd (l0.take ((ji4) : Int).toNat) x32_1)) 2147483648)) [.int .i64 (wrap64 (Int.tmod (IntKind.u64.wrap (rd (l0.take ((ji4) : Int).toNat) x32_1)) 2147483648))] (fun _ => True) (fun _ => False) rfl rfl ?aP (fun _ hk => hk.elim) ?aF ?aO ?aB ?aS ?aL ?_; (case aP => exact rfl); (case aB => exact (by repeat (first | (with_reducible first | exact HB.out | apply below_alloc | apply pw_below_drewN | apply below_drew1) | exact HB.out))); (case aF => exact (fun _ _ => trivial)); (case aO => exact (by (with_reducible repeat (first | apply Kd.R_alloc | apply Kd.R_drewN | apply Kd.R_drew)); exact HO_7.out)); (case aS => exact (below_size (by repeat (first | (with_reducible first | exact HB.out | apply below_alloc | apply pw_below_drewN | apply below_drew1) | exact HB.out)))); (case aL => have := LMc11.out; omega); intro v337 w12 ho hb hg hat; rw [← Ny336.out] at ho; have n0_ := Aside0.mk (hb); have n1_ := Aside0.mk (ho); clear HB; clear HO_7; have HB := n0_; have HO338 := n1_; clear n0_ n1_; clear ho hb hg hat))
                  go_roundg k1
                  case measure => have := HK1.out; omega
                  case rel => exact ⟨(y336), (wrap64 (x32_1 + 1)), (by first | rfl | (simp; done) | (simp [*]; done)), H', ⟨by have := HK1.out; omega⟩, ⟨by (with_reducible repeat (first | apply Kd.R_alloc | apply Kd.R_drewN | apply Kd.R_drew)); exact HO338.out⟩, ⟨by repeat (first | (with_reducible first | exact HB.out | apply below_alloc | apply pw_below_drewN | apply below_drew1) | exact HB.out)⟩⟩
                · rw [if_neg c11] at H
                  exact absurd H (by simp)
              · rw [if_neg c10] at H
                exact absurd H (by simp)
            · rw [if_neg c9] at H
              exact absurd H (by simp)
          · rw [if_neg c8] at H
            have c8b0 : decide (x32_1 < ((l0.take ((ji4) : Int).toNat).length : Int)) = false := decide_eq_false c8
            (try (have c8b0m : decide (x32_1 < max ji4 0) = false := by have e_ := hji4_; have e2_ : ((l0.take ((ji4) : Int).toNat).length : Int) = max ji4 0 := (by (rw [List.length_take]; split at e_ <;> omega)); rw [← e2_]; exact c8b0))
            clear c8
            obtain ⟨ji13, hji13⟩ : ∃ j_ : Int, (mn (l1.length : Int) 30) = j_ := ⟨_, rfl⟩
            replace H : (if 0 ≤ (ji13) then (if (ji13) ≤ (l1.length : Int) then (plaitlaw03_VarintJoins.l1 k1 a2 x7_1 ([] : List Int) (l1.take ((ji13) : Int).toNat) ((l1.take ((ji13) : Int).toNat).length : Int) 0) else (none)) else (none)) = some r := by first | (rw [hji13] at H; exact H) | (simp only [hji13] at H ⊢; exact H)
            have hji13_ : (if 30 < (l1.length : Int) then 30 else (l1.length : Int)) = ji13 := hji13
            by_cases c14 : 0 ≤ (ji13)
            · rw [if_pos c14] at H
              have c14b0 := eq_true c14
              have c14b1 : decide (0 ≤ (ji13)) = true := decide_eq_true c14
              clear c14
              by_cases c15 : (ji13) ≤ (l1.length : Int)
              · rw [if_pos c15] at H
                have c15b0 := eq_true c15
                have c15b1 : decide ((ji13) ≤ (l1.length : Int)) = true := decide_eq_true c15
                clear c15
                have H' := Aside0.mk H
                clear H
                obtain ⟨i016, hi016, _, hsz16, _⟩ := info_parts info3
                obtain ⟨hcut16, hA16, hC16⟩ := print_take_of (P := Try.prog) (Value.int .i64) 0 28 3 .i64 Try.underlying28 hi016 hsz16 A1 c1 l1 (ji13) (of_decide_eq_true (by first | (with_reducible assumption) | assumption)) (of_decide_eq_true (by first | (with_reducible assumption) | assumption)) HC1.out
                have HR339 := Aside0.mk (Kd.C_of_reads (h1 := fun _ => rfl) (hA16 _ (Kd.reads_of_C HR1.out)))
                have HC339 := Aside0.mk hC16
                clear hA16 hC16 hi016 hsz16
                go_wp2
                go_loopg [8, 50] k1 (fun kq v8 v50 w' => ∃ (x8_2 : List Int) (x50_2 : Int), v50 = .int .i64 x50_2 ∧ Aside0 (plaitlaw03_VarintJoins.l1 kq a2 x7_1 x8_2 (l1.take ((ji13) : Int).toNat) ((l1.take ((ji13) : Int).toNat).length : Int) x50_2 = some r) ∧ Aside0 (kq ≤ k1) ∧ Aside0 (Kd.R (Kd.int .i64) 3 w' w.heap.size (fun k_ => some k_ ≠ (v8 : Value).ownBlock) u7 x7_1) ∧ Aside0 (Kd.R (Kd.int .i64) 3 w' w.heap.size (fun k_ => some k_ ≠ (u7 : Value).ownBlock) v8 x8_2) ∧ Aside0 (Below w.heap.size w w'))
                case atStart => exact ⟨(([] : List Int)), (0), (by first | rfl | (simp; done) | (simp [*]; done)), H', ⟨Nat.le_refl _⟩, ⟨by (with_reducible repeat (first | apply Kd.R_alloc | apply Kd.R_drewN | apply Kd.R_drew)); exact Kd.R_mono HO_7.out (fun _ hk => (by simp [Value.ownBlock]))⟩, ⟨by first | exact Kd.R_nil _ _ _ _ _ | exact Kd.N_nil _ _ _ _ _ | exact Kd.V_nil _ _ _ _ _ | exact Kd.Q_nil _ _ _ _ _ | exact Kd.S_nil _ _ _ _ _⟩, ⟨by repeat (first | (with_reducible first | exact HB.out | apply below_alloc | apply pw_below_drewN | apply below_drew1) | exact HB.out)⟩⟩
                case round =>
                  clear H'
                  try clear c1
                  try clear p2
                  try clear p3
                  try clear q3
                  try clear hx3
                  try clear c5
                  try clear c5b0
                  try clear c5b1
                  try clear c6
                  try clear c6b0
                  try clear c6b1
                  try clear p6
                  try clear c8
                  try clear c8b0
                  try clear c9
                  try clear c9b0
                  try clear c10
                  try clear c10b0
                  try clear c11
                  try clear c13
                  try clear c14
                  try clear c14b0
                  try clear c14b1
                  try clear c15
                  try clear c15b0
                  try clear c15b1
                  try clear hx335_0
                  try clear p2
                  try clear p335
                  try clear q335
                  obtain ⟨x8_2, x50_2, rfl, HA, HK2, HO_7, HO_8, HB⟩ := hrel
                  cases gk with
                  | zero => exact absurd HA.out (by simp [plaitlaw03_VarintJoins.l1])
                  | succ k2 =>
                    have H := HA.out
                    clear HA
                    simp only [plaitlaw03_VarintJoins.l1] at H
                    by_cases c17 : x50_2 < ((l1.take ((ji13) : Int).toNat).length : Int)
                    · rw [if_pos c17] at H
                      have c17b0 : decide (x50_2 < ((l1.take ((ji13) : Int).toNat).length : Int)) = true := decide_eq_true c17
                      (try (have c17b0m : decide (x50_2 < max ji13 0) = true := by have e_ := hji13_; have e2_ : ((l1.take ((ji13) : Int).toNat).length : Int) = max ji13 0 := (by (rw [List.length_take]; split at e_ <;> omega)); rw [← e2_]; exact c17b0))
                      clear c17
                      by_cases c18 : 0 ≤ x50_2
                      · rw [if_pos c18] at H
                        have c18b0 : decide (0 ≤ x50_2) = true := decide_eq_true c18
                        clear c18
                        by_cases c19 : x50_2 < ((l1.take ((ji13) : Int).toNat).length : Int)
                        · rw [if_pos c19] at H
                          have c19b0 : decide (x50_2 < ((l1.take ((ji13) : Int).toNat).length : Int)) = true := decide_eq_true c19
                          (try (have c19b0m : decide (x50_2 < max ji13 0) = true := by have e_ := hji13_; have e2_ : ((l1.take ((ji13) : Int).toNat).length : Int) = max ji13 0 := (by (rw [List.length_take]; split at e_ <;> omega)); rw [← e2_]; exact c19b0))
                          clear c19
                          by_cases c20 : x8_2.length < 17592186044416
                          · rw [if_pos c20] at H
                            have LMc20 := Aside0.mk c20
                            clear c20
                            obtain ⟨y341, hy341⟩ : ∃ y_ : List Int, y_ = (x8_2 ++ [wrap64 (Int.tmod (IntKind.u64.wrap (rd (l1.take ((ji13) : Int).toNat) x50_2)) 2147483648)]) := ⟨_, rfl⟩
                            replace H : (plaitlaw03_VarintJoins.l1 k2 a2 x7_1 y341 (l1.take ((ji13) : Int).toNat) ((l1.take ((ji13) : Int).toNat).length : Int) (wrap64 (x50_2 + 1))) = some r := by first | (rw [hy341]; with_reducible exact H) | (have H2_ := (Option.bind_some _ _).symm.trans H; rw [hy341]; with_reducible exact H2_) | (have H2_ := (Option.bind_some _ _).symm.trans H; with_reducible exact H2_) | with_reducible exact H | (rw [hy341]; exact H) | exact H
                            have Ny341 := Aside0.mk hy341
                            clear hy341
                            have H' := Aside0.mk H
                            clear H
                            have p340 : 0 ≤ (x50_2 : Int) := of_decide_eq_true (by first | (with_reducible assumption) | assumption)
                            have q340 : x50_2 < ((l1.take ((ji13) : Int).toNat).length : Int) := of_decide_eq_true (by first | (with_reducible assumption) | assumption)
                            (try (have q340m : (x50_2 < max ji13 0) = True := by have e_ := hji13_; have e2_ : ((l1.take ((ji13) : Int).toNat).length : Int) = max ji13 0 := (by (rw [List.length_take]; split at e_ <;> omega)); rw [← e2_]; exact eq_true q340))
                            obtain ⟨ad340, e340, hx340_0⟩ := Kd.at_int HR339.out x50_2 p340 q340
                            cases e340
                            replace hx340_0 := (HB.out.cell (World.block_lt_of_cell? w _ hx340_0)).trans hx340_0
                            replace p340 := eq_true p340
                            replace q340 := eq_true q340
                            go_wp2_with (first | ((with_reducible refine gate_builtin (b := .append) (xs := #[.tmp 54, .tmp 59]) rfl ?_); (try (refine gate_guard (by rfl) ?_; dsimp only)); at_builtin; refine Kd.R_append (Kd.int .i64) (w0 := w) w.heap.size rfl (.tmp 54) (.tmp 59) 28 3 (.int .i64 0) 8 rfl Try.underlying28 info3 rfl (by decide) (by omega) u8 x8_2 (wrap64 (Int.tmod (IntKind.u64.wrap (rd (l1.take ((ji13) : Int).toNat) x50_2)) 2147483648)) [.int .i64 (wrap64 (Int.tmod (IntKind.u64.wrap (rd (l1.take ((ji13) : Int).toNat) x50_2)) 2147483648))] (fun k_ => some k_ ≠ (u7 : Value).ownBlock) (fun _ => False) rfl rfl ?aP (fun _ hk => hk.elim) ?aF ?aO ?aB ?aS ?aL ?_; (case aP => exact rfl); (case aB => exact (by repeat (first | (with_reducible first | exact HB.out | apply below_alloc | apply pw_below_drewN | apply below_drew1) | exact HB.out))); (case aF => exact (fun k_ hk => Kd.fresh' (Kd.R_lt (by (with_reducible repeat (first | apply Kd.R_alloc | apply Kd.R_drewN | apply Kd.R_drew)); exact HO_7.out)) k_ hk)); (case aO => exact (by (with_reducible repeat (first | apply Kd.R_alloc | apply Kd.R_drewN | apply Kd.R_drew)); exact HO_8.out)); (case aS => exact (below_size (by repeat (first | (with_reducible first | exact HB.out | apply below_alloc | apply pw_below_drewN | apply below_drew1) | exact HB.out)))); (case aL => have := LMc20.out; omega); intro v342 w21 ho hb hg hat; rw [← Ny341.out] at ho; have n0_ := Aside0.mk (Kd.R_after (ok := (fun _ => True)) (by (with_reducible repeat (first | apply Kd.R_alloc | apply Kd.R_drewN | apply Kd.R_drew)); exact Kd.R_mono HO_7.out (fun _ hk => ⟨trivial, hk⟩)) hg hat); have n1_ := Aside0.mk (hb); have n2_ := Aside0.mk (ho); clear HO_7; clear HB; clear HO_8; have HO_7 := n0_; have HB := n1_; have HO343 := n2_; clear n0_ n1_ n2_; clear ho hb hg hat))
                            go_roundg k2
                            case measure => have := HK1.out; have := HK2.out; omega
                            case rel => exact ⟨(y341), (wrap64 (x50_2 + 1)), (by first | rfl | (simp; done) | (simp [*]; done)), H', ⟨by have := HK1.out; have := HK2.out; omega⟩, ⟨by (with_reducible repeat (first | apply Kd.R_alloc | apply Kd.R_drewN | apply Kd.R_drew)); exact Kd.R_mono HO_7.out (fun _ hk => hk.2)⟩, ⟨by (with_reducible repeat (first | apply Kd.R_alloc | apply Kd.R_drewN | apply Kd.R_drew)); exact HO343.out⟩, ⟨by repeat (first | (with_reducible first | exact HB.out | apply below_alloc | apply pw_below_drewN | apply below_drew1) | exact HB.out)⟩⟩
                          · rw [if_neg c20] at H
                            exact absurd H (by simp)
                        · rw [if_neg c19] at H
                          exact absurd H (by simp)
                      · rw [if_neg c18] at H
                        exact absurd H (by simp)
                    · rw [if_neg c17] at H
                      have c17b0 : decide (x50_2 < ((l1.take ((ji13) : Int).toNat).length : Int)) = false := decide_eq_false c17
                      (try (have c17b0m : decide (x50_2 < max ji13 0) = false := by have e_ := hji13_; have e2_ : ((l1.take ((ji13) : Int).toNat).length : Int) = max ji13 0 := (by (rw [List.length_take]; split at e_ <;> omega)); rw [← e2_]; exact c17b0))
                      clear c17
                      obtain ⟨y344, hy344⟩ : ∃ y_ : List Int, y_ = (([] : List Int)) := ⟨_, rfl⟩
                      replace H : (if y344.length + x7_1.length < 17592186044416 then ((some (y344 ++ x7_1 : List Int)).bind fun y347 => (if y347.length + x8_2.length < 17592186044416 then ((some (y347 ++ x8_2 : List Int)).bind fun y350 => ((varint_All.f k2 x7_1).bind fun bt353 => ((varint_All.f k2 x8_2).bind fun bt355 => ((varint_All.f k2 y350).bind fun bt357 => (if bt353.1.size + bt355.1.size ≤ 9223372036854775807 then ((varint_Every.f k2 (bt353.1 ++ bt355.1)).bind fun bt359 => ((varint_Sign.f (wrap64 ((wrap64 (Int.tmod (IntKind.u64.wrap (a2)) 2147483648)) - 1073741824))).bind fun bt363 => ((varint_Every.f k2 bt363.1).bind fun bt365 => ((plaitlaw03_alive.f k2).bind fun t369 => (if t369 = true then (if bt353.2 = 0 then (if bt355.2 = 0 then (if bt357.2 = 0 then (if bt359.2 = 0 then (if bt363.2 = 0 then (if bt365.2 = 0 then (if bt357.1.toList = (bt353.1 ++ bt355.1).toList then ((plaitref01_Rows.f k2 bt359.1 y350).bind fun t370 => (if t370 = true then (if (bt365.1.length : Int) = 1 then (if 0 < (bt365.1.length : Int) then (some (((Int.tmod (rd bt365.1 0) 2) == 1) == (decide ((wrap64 ((wrap64 (Int.tmod (IntKind.u64.wrap (a2)) 2147483648)) - 1073741824)) < 0)))) else (none)) else (some false)) else (some false))) else (some false)) else (some false)) else (some false)) else (some false)) else (some false)) else (some false)) else (some false)) else (some false)))))) else (none)))))) else (none))) else (none)) = some r := by first | (rw [hy344]; with_reducible exact H) | (have H2_ := (Option.bind_some _ _).symm.trans H; rw [hy344]; with_reducible exact H2_) | (have H2_ := (Option.bind_some _ _).symm.trans H; with_reducible exact H2_) | with_reducible exact H | (rw [hy344]; exact H) | exact H
                      have Ny344 := Aside0.mk hy344
                      clear hy344
                      by_cases c22 : y344.length + x7_1.length < 17592186044416
                      · rw [if_pos c22] at H
                        have LMc22 := Aside0.mk c22
                        clear c22
                        obtain ⟨y347, hy347⟩ : ∃ y_ : List Int, y_ = (y344 ++ x7_1) := ⟨_, rfl⟩
                        replace H : (if y347.length + x8_2.length < 17592186044416 then ((some (y347 ++ x8_2 : List Int)).bind fun y350 => ((varint_All.f k2 x7_1).bind fun bt353 => ((varint_All.f k2 x8_2).bind fun bt355 => ((varint_All.f k2 y350).bind fun bt357 => (if bt353.1.size + bt355.1.size ≤ 9223372036854775807 then ((varint_Every.f k2 (bt353.1 ++ bt355.1)).bind fun bt359 => ((varint_Sign.f (wrap64 ((wrap64 (Int.tmod (IntKind.u64.wrap (a2)) 2147483648)) - 1073741824))).bind fun bt363 => ((varint_Every.f k2 bt363.1).bind fun bt365 => ((plaitlaw03_alive.f k2).bind fun t369 => (if t369 = true then (if bt353.2 = 0 then (if bt355.2 = 0 then (if bt357.2 = 0 then (if bt359.2 = 0 then (if bt363.2 = 0 then (if bt365.2 = 0 then (if bt357.1.toList = (bt353.1 ++ bt355.1).toList then ((plaitref01_Rows.f k2 bt359.1 y350).bind fun t370 => (if t370 = true then (if (bt365.1.length : Int) = 1 then (if 0 < (bt365.1.length : Int) then (some (((Int.tmod (rd bt365.1 0) 2) == 1) == (decide ((wrap64 ((wrap64 (Int.tmod (IntKind.u64.wrap (a2)) 2147483648)) - 1073741824)) < 0)))) else (none)) else (some false)) else (some false))) else (some false)) else (some false)) else (some false)) else (some false)) else (some false)) else (some false)) else (some false)) else (some false)))))) else (none)))))) else (none)) = some r := by first | (rw [hy347]; with_reducible exact H) | (have H2_ := (Option.bind_some _ _).symm.trans H; rw [hy347]; with_reducible exact H2_) | (have H2_ := (Option.bind_some _ _).symm.trans H; with_reducible exact H2_) | with_reducible exact H | (rw [hy347]; exact H) | exact H
                        have Ny347 := Aside0.mk hy347
                        clear hy347
                        by_cases c23 : y347.length + x8_2.length < 17592186044416
                        · rw [if_pos c23] at H
                          have LMc23 := Aside0.mk c23
                          clear c23
                          obtain ⟨y350, hy350⟩ : ∃ y_ : List Int, y_ = (y347 ++ x8_2) := ⟨_, rfl⟩
                          replace H : ((varint_All.f k2 x7_1).bind fun bt353 => ((varint_All.f k2 x8_2).bind fun bt355 => ((varint_All.f k2 y350).bind fun bt357 => (if bt353.1.size + bt355.1.size ≤ 9223372036854775807 then ((varint_Every.f k2 (bt353.1 ++ bt355.1)).bind fun bt359 => ((varint_Sign.f (wrap64 ((wrap64 (Int.tmod (IntKind.u64.wrap (a2)) 2147483648)) - 1073741824))).bind fun bt363 => ((varint_Every.f k2 bt363.1).bind fun bt365 => ((plaitlaw03_alive.f k2).bind fun t369 => (if t369 = true then (if bt353.2 = 0 then (if bt355.2 = 0 then (if bt357.2 = 0 then (if bt359.2 = 0 then (if bt363.2 = 0 then (if bt365.2 = 0 then (if bt357.1.toList = (bt353.1 ++ bt355.1).toList then ((plaitref01_Rows.f k2 bt359.1 y350).bind fun t370 => (if t370 = true then (if (bt365.1.length : Int) = 1 then (if 0 < (bt365.1.length : Int) then (some (((Int.tmod (rd bt365.1 0) 2) == 1) == (decide ((wrap64 ((wrap64 (Int.tmod (IntKind.u64.wrap (a2)) 2147483648)) - 1073741824)) < 0)))) else (none)) else (some false)) else (some false))) else (some false)) else (some false)) else (some false)) else (some false)) else (some false)) else (some false)) else (some false)) else (some false)))))) else (none))))) = some r := by first | (rw [hy350]; with_reducible exact H) | (have H2_ := (Option.bind_some _ _).symm.trans H; rw [hy350]; with_reducible exact H2_) | (have H2_ := (Option.bind_some _ _).symm.trans H; with_reducible exact H2_) | with_reducible exact H | (rw [hy350]; exact H) | exact H
                          have Ny350 := Aside0.mk hy350
                          clear hy350
                          replace H := Option.bind_eq_some_iff.mp H
                          obtain ⟨⟨t353, t354⟩, A240, H⟩ := H
                          replace H : ((varint_All.f k2 x8_2).bind fun bt355 => ((varint_All.f k2 y350).bind fun bt357 => (if t353.size + bt355.1.size ≤ 9223372036854775807 then ((varint_Every.f k2 (t353 ++ bt355.1)).bind fun bt359 => ((varint_Sign.f (wrap64 ((wrap64 (Int.tmod (IntKind.u64.wrap (a2)) 2147483648)) - 1073741824))).bind fun bt363 => ((varint_Every.f k2 bt363.1).bind fun bt365 => ((plaitlaw03_alive.f k2).bind fun t369 => (if t369 = true then (if t354 = 0 then (if bt355.2 = 0 then (if bt357.2 = 0 then (if bt359.2 = 0 then (if bt363.2 = 0 then (if bt365.2 = 0 then (if bt357.1.toList = (t353 ++ bt355.1).toList then ((plaitref01_Rows.f k2 bt359.1 y350).bind fun t370 => (if t370 = true then (if (bt365.1.length : Int) = 1 then (if 0 < (bt365.1.length : Int) then (some (((Int.tmod (rd bt365.1 0) 2) == 1) == (decide ((wrap64 ((wrap64 (Int.tmod (IntKind.u64.wrap (a2)) 2147483648)) - 1073741824)) < 0)))) else (none)) else (some false)) else (some false))) else (some false)) else (some false)) else (some false)) else (some false)) else (some false)) else (some false)) else (some false)) else (some false)))))) else (none)))) = some r := H
                          have A24 := Aside0.mk A240
                          clear A240
                          replace H := Option.bind_eq_some_iff.mp H
                          obtain ⟨⟨t355, t356⟩, A250, H⟩ := H
                          replace H : ((varint_All.f k2 y350).bind fun bt357 => (if t353.size + t355.size ≤ 9223372036854775807 then ((varint_Every.f k2 (t353 ++ t355)).bind fun bt359 => ((varint_Sign.f (wrap64 ((wrap64 (Int.tmod (IntKind.u64.wrap (a2)) 2147483648)) - 1073741824))).bind fun bt363 => ((varint_Every.f k2 bt363.1).bind fun bt365 => ((plaitlaw03_alive.f k2).bind fun t369 => (if t369 = true then (if t354 = 0 then (if t356 = 0 then (if bt357.2 = 0 then (if bt359.2 = 0 then (if bt363.2 = 0 then (if bt365.2 = 0 then (if bt357.1.toList = (t353 ++ t355).toList then ((plaitref01_Rows.f k2 bt359.1 y350).bind fun t370 => (if t370 = true then (if (bt365.1.length : Int) = 1 then (if 0 < (bt365.1.length : Int) then (some (((Int.tmod (rd bt365.1 0) 2) == 1) == (decide ((wrap64 ((wrap64 (Int.tmod (IntKind.u64.wrap (a2)) 2147483648)) - 1073741824)) < 0)))) else (none)) else (some false)) else (some false))) else (some false)) else (some false)) else (some false)) else (some false)) else (some false)) else (some false)) else (some false)) else (some false)))))) else (none))) = some r := H
                          have A25 := Aside0.mk A250
                          clear A250
                          replace H := Option.bind_eq_some_iff.mp H
                          obtain ⟨⟨t357, t358⟩, A260, H⟩ := H
                          replace H : (if t353.size + t355.size ≤ 9223372036854775807 then ((varint_Every.f k2 (t353 ++ t355)).bind fun bt359 => ((varint_Sign.f (wrap64 ((wrap64 (Int.tmod (IntKind.u64.wrap (a2)) 2147483648)) - 1073741824))).bind fun bt363 => ((varint_Every.f k2 bt363.1).bind fun bt365 => ((plaitlaw03_alive.f k2).bind fun t369 => (if t369 = true then (if t354 = 0 then (if t356 = 0 then (if t358 = 0 then (if bt359.2 = 0 then (if bt363.2 = 0 then (if bt365.2 = 0 then (if t357.toList = (t353 ++ t355).toList then ((plaitref01_Rows.f k2 bt359.1 y350).bind fun t370 => (if t370 = true then (if (bt365.1.length : Int) = 1 then (if 0 < (bt365.1.length : Int) then (some (((Int.tmod (rd bt365.1 0) 2) == 1) == (decide ((wrap64 ((wrap64 (Int.tmod (IntKind.u64.wrap (a2)) 2147483648)) - 1073741824)) < 0)))) else (none)) else (some false)) else (some false))) else (some false)) else (some false)) else (some false)) else (some false)) else (some false)) else (some false)) else (some false)) else (some false)))))) else (none)) = some r := H
                          have A26 := Aside0.mk A260
                          clear A260
                          by_cases c27 : t353.size + t355.size ≤ 9223372036854775807
                          · rw [if_pos c27] at H
                            have c27b0 := eq_true c27
                            have c27b1 : decide (t353.size + t355.size ≤ 9223372036854775807) = true := decide_eq_true c27
                            try have c27b2 : (9223372036854775807 < t353.size + t355.size) = False := eq_false (Nat.not_lt.2 c27)
                            replace H := Option.bind_eq_some_iff.mp H
                            obtain ⟨⟨t359, t360⟩, A280, H⟩ := H
                            replace H : ((varint_Sign.f (wrap64 ((wrap64 (Int.tmod (IntKind.u64.wrap (a2)) 2147483648)) - 1073741824))).bind fun bt363 => ((varint_Every.f k2 bt363.1).bind fun bt365 => ((plaitlaw03_alive.f k2).bind fun t369 => (if t369 = true then (if t354 = 0 then (if t356 = 0 then (if t358 = 0 then (if t360 = 0 then (if bt363.2 = 0 then (if bt365.2 = 0 then (if t357.toList = (t353 ++ t355).toList then ((plaitref01_Rows.f k2 t359 y350).bind fun t370 => (if t370 = true then (if (bt365.1.length : Int) = 1 then (if 0 < (bt365.1.length : Int) then (some (((Int.tmod (rd bt365.1 0) 2) == 1) == (decide ((wrap64 ((wrap64 (Int.tmod (IntKind.u64.wrap (a2)) 2147483648)) - 1073741824)) < 0)))) else (none)) else (some false)) else (some false))) else (some false)) else (some false)) else (some false)) else (some false)) else (some false)) else (some false)) else (some false)) else (some false))))) = some r := H
                            have A28 := Aside0.mk A280
                            clear A280
                            replace H := Option.bind_eq_some_iff.mp H
                            obtain ⟨⟨t363, t364⟩, A290, H⟩ := H
                            replace H : ((varint_Every.f k2 t363).bind fun bt365 => ((plaitlaw03_alive.f k2).bind fun t369 => (if t369 = true then (if t354 = 0 then (if t356 = 0 then (if t358 = 0 then (if t360 = 0 then (if t364 = 0 then (if bt365.2 = 0 then (if t357.toList = (t353 ++ t355).toList then ((plaitref01_Rows.f k2 t359 y350).bind fun t370 => (if t370 = true then (if (bt365.1.length : Int) = 1 then (if 0 < (bt365.1.length : Int) then (some (((Int.tmod (rd bt365.1 0) 2) == 1) == (decide ((wrap64 ((wrap64 (Int.tmod (IntKind.u64.wrap (a2)) 2147483648)) - 1073741824)) < 0)))) else (none)) else (some false)) else (some false))) else (some false)) else (some false)) else (some false)) else (some false)) else (some false)) else (some false)) else (some false)) else (some false)))) = some r := H
                            have A29 := Aside0.mk A290
                            clear A290
                            replace H := Option.bind_eq_some_iff.mp H
                            obtain ⟨⟨t365, t366⟩, A300, H⟩ := H
                            replace H : ((plaitlaw03_alive.f k2).bind fun t369 => (if t369 = true then (if t354 = 0 then (if t356 = 0 then (if t358 = 0 then (if t360 = 0 then (if t364 = 0 then (if t366 = 0 then (if t357.toList = (t353 ++ t355).toList then ((plaitref01_Rows.f k2 t359 y350).bind fun t370 => (if t370 = true then (if (t365.length : Int) = 1 then (if 0 < (t365.length : Int) then (some (((Int.tmod (rd t365 0) 2) == 1) == (decide ((wrap64 ((wrap64 (Int.tmod (IntKind.u64.wrap (a2)) 2147483648)) - 1073741824)) < 0)))) else (none)) else (some false)) else (some false))) else (some false)) else (some false)) else (some false)) else (some false)) else (some false)) else (some false)) else (some false)) else (some false))) = some r := H
                            have A30 := Aside0.mk A300
                            clear A300
                            replace H := Option.bind_eq_some_iff.mp H
                            obtain ⟨t369, A310, H⟩ := H
                            replace H : (if t369 = true then (if t354 = 0 then (if t356 = 0 then (if t358 = 0 then (if t360 = 0 then (if t364 = 0 then (if t366 = 0 then (if t357.toList = (t353 ++ t355).toList then ((plaitref01_Rows.f k2 t359 y350).bind fun t370 => (if t370 = true then (if (t365.length : Int) = 1 then (if 0 < (t365.length : Int) then (some (((Int.tmod (rd t365 0) 2) == 1) == (decide ((wrap64 ((wrap64 (Int.tmod (IntKind.u64.wrap (a2)) 2147483648)) - 1073741824)) < 0)))) else (none)) else (some false)) else (some false))) else (some false)) else (some false)) else (some false)) else (some false)) else (some false)) else (some false)) else (some false)) else (some false)) = some r := H
                            have A31 := Aside0.mk A310
                            clear A310
                            by_cases c32 : t369 = true
                            · subst c32
                              have H1 : (if t354 = 0 then (if t356 = 0 then (if t358 = 0 then (if t360 = 0 then (if t364 = 0 then (if t366 = 0 then (if t357.toList = (t353 ++ t355).toList then ((plaitref01_Rows.f k2 t359 y350).bind fun t370 => (if t370 = true then (if (t365.length : Int) = 1 then (if 0 < (t365.length : Int) then (some (((Int.tmod (rd t365 0) 2) == 1) == (decide ((wrap64 ((wrap64 (Int.tmod (IntKind.u64.wrap (a2)) 2147483648)) - 1073741824)) < 0)))) else (none)) else (some false)) else (some false))) else (some false)) else (some false)) else (some false)) else (some false)) else (some false)) else (some false)) else (some false)) = some r := by rw [if_pos rfl] at H; exact H
                              clear H
                              have H := H1
                              clear H1
                              by_cases c33 : t354 = 0
                              · rw [if_pos c33] at H
                                have c33b0 : (t354 == 0) = true := beq_iff_eq.mpr c33
                                have c33b1 : (t354 != 0) = false := bne_eq_false_iff_eq.mpr c33
                                clear c33
                                by_cases c34 : t356 = 0
                                · rw [if_pos c34] at H
                                  have c34b0 : (t356 == 0) = true := beq_iff_eq.mpr c34
                                  have c34b1 : (t356 != 0) = false := bne_eq_false_iff_eq.mpr c34
                                  clear c34
                                  by_cases c35 : t358 = 0
                                  · rw [if_pos c35] at H
                                    have c35b0 : (t358 == 0) = true := beq_iff_eq.mpr c35
                                    have c35b1 : (t358 != 0) = false := bne_eq_false_iff_eq.mpr c35
                                    clear c35
                                    by_cases c36 : t360 = 0
                                    · rw [if_pos c36] at H
                                      have c36b0 : (t360 == 0) = true := beq_iff_eq.mpr c36
                                      have c36b1 : (t360 != 0) = false := bne_eq_false_iff_eq.mpr c36
                                      clear c36
                                      by_cases c37 : t364 = 0
                                      · rw [if_pos c37] at H
                                        have c37b0 : (t364 == 0) = true := beq_iff_eq.mpr c37
                                        have c37b1 : (t364 != 0) = false := bne_eq_false_iff_eq.mpr c37
                                        clear c37
                                        by_cases c38 : t366 = 0
                                        · rw [if_pos c38] at H
                                          have c38b0 : (t366 == 0) = true := beq_iff_eq.mpr c38
                                          have c38b1 : (t366 != 0) = false := bne_eq_false_iff_eq.mpr c38
                                          clear c38
                                          by_cases c39 : t357.toList = (t353 ++ t355).toList
                                          · rw [if_pos c39] at H
                                            have c39b0 : (t357.toList == (t353 ++ t355).toList) = true := beq_iff_eq.mpr c39
                                            have c39b1 : (t357.toList != (t353 ++ t355).toList) = false := bne_eq_false_iff_eq.mpr c39
                                            clear c39
                                            replace H := Option.bind_eq_some_iff.mp H
                                            obtain ⟨t370, A400, H⟩ := H
                                            replace H : (if t370 = true then (if (t365.length : Int) = 1 then (if 0 < (t365.length : Int) then (some (((Int.tmod (rd t365 0) 2) == 1) == (decide ((wrap64 ((wrap64 (Int.tmod (IntKind.u64.wrap (a2)) 2147483648)) - 1073741824)) < 0)))) else (none)) else (some false)) else (some false)) = some r := H
                                            have A40 := Aside0.mk A400
                                            clear A400
                                            by_cases c41 : t370 = true
                                            · subst c41
                                              have H1 : (if (t365.length : Int) = 1 then (if 0 < (t365.length : Int) then (some (((Int.tmod (rd t365 0) 2) == 1) == (decide ((wrap64 ((wrap64 (Int.tmod (IntKind.u64.wrap (a2)) 2147483648)) - 1073741824)) < 0)))) else (none)) else (some false)) = some r := by rw [if_pos rfl] at H; exact H
                                              clear H
                                              have H := H1
                                              clear H1
                                              by_cases c42 : (t365.length : Int) = 1
                                              · rw [if_pos c42] at H
                                                have c42b0 : ((t365.length : Int) == 1) = true := beq_iff_eq.mpr c42
                                                have c42b1 : ((t365.length : Int) != 1) = false := bne_eq_false_iff_eq.mpr c42
                                                clear c42
                                                by_cases c43 : 0 < (t365.length : Int)
                                                · rw [if_pos c43] at H
                                                  have c43b0 : decide (0 < (t365.length : Int)) = true := decide_eq_true c43
                                                  have c43b1 : decide (0 < t365.length) = true := decide_eq_true (by omega)
                                                  clear c43
                                                  obtain rfl := Option.some.inj H
                                                  go_wp2_with (first | ((with_reducible refine gate_dst (N := 62) rfl ?_); (try (refine gate_guard (by rfl) ?_; dsimp only)); refine Kd.R_lit (Kd.int .i64) _ 3 ?hg (N := 62) ?hd (xs := ([] : List Int)) (inner := []) (ok := fun _ => True) (okp := fun _ => True) ?hr ?hp (fun _ hk => hk) trivial (Below.refl _ _) (Nat.le_refl _) (by simp) ?_; (case hd => rfl); (case hg => rfl); (case hr => first | (go_simp; done) | (go_simp; rfl)); (case hp => exact (Reps.none _ _)); intro v345 w44 ho45 hb hg_ hnew_; clear hg_ hnew_; (first | rw [← Ny344.out] at ho45 | (simp only [Int.reduceToNat] at ho45; rw [← Ny344.out] at ho45)); have n0_ := Aside0.mk (Kd.R_elder' (by (with_reducible repeat (first | apply Kd.R_alloc | apply Kd.R_drewN | apply Kd.R_drew)); exact HO_7.out) (Kd.R_base ho45) hb); have n1_ := Aside0.mk (Kd.R_elder' (by (with_reducible repeat (first | apply Kd.R_alloc | apply Kd.R_drewN | apply Kd.R_drew)); exact HO_8.out) (Kd.R_base ho45) hb); have n2_ := Aside0.mk (Kd.R_lower (Kd.R_new' (Kd.R_new' ho45 (Kd.R_lt (by (with_reducible repeat (first | apply Kd.R_alloc | apply Kd.R_drewN | apply Kd.R_drew)); exact HO_7.out))) (Kd.R_lt (by (with_reducible repeat (first | apply Kd.R_alloc | apply Kd.R_drewN | apply Kd.R_drew)); exact HO_8.out))) (below_size (by repeat (first | (with_reducible first | exact HB.out | apply below_alloc | apply pw_below_drewN | apply below_drew1) | exact HB.out)))); have n3_ := Aside0.mk (below_step (by repeat (first | (with_reducible first | exact HB.out | apply below_alloc | apply pw_below_drewN | apply below_drew1) | exact HB.out)) hb); clear HO_7; clear HO_8; clear HB; have HO_7 := n0_; have HO_8 := n1_; have HO346 := n2_; have HB := n3_; clear n0_ n1_ n2_ n3_; clear hb ho45; obtain ⟨Ao47, co47, eo47⟩ := Kd.R_slice HO_7.out; subst eo47) | ((with_reducible refine gate_builtin (b := .append) (xs := #[.tmp 62, .tmp 63]) rfl ?_); (try (refine gate_guard (by rfl) ?_; dsimp only)); at_builtin; refine Kd.R_append_rows (Kd.int .i64) (w0 := w) w.heap.size rfl (.tmp 62) (.tmp 63) 28 3 (.int .i64 0) 8 rfl Try.underlying28 info3 rfl (by decide) (by omega) v345 y344 x7_1 _ _ _ (fun k_ => some k_ ≠ (.slice Ao47 x7_1.length co47 : Value).ownBlock ∧ some k_ ≠ (u8 : Value).ownBlock) (fun _ => False) rfl rfl ?aO ?aR (fun _ _ h => h) (fun _ h => h.elim) ?aF ?aB ?aS ?aL ?_; (case aR => repeat (first | exact (Kd.R_reads' HO_7.out).2.2 | (with_reducible refine Kd.C_alloc ?_ _) | (with_reducible refine Kd.C_drewN ?_ _) | (with_reducible refine Kd.C_drew ?_))); (case aB => exact (by repeat (first | (with_reducible first | exact HB.out | apply below_alloc | apply pw_below_drewN | apply below_drew1) | exact HB.out))); (case aF => exact (fun k_ hk => ⟨Kd.fresh' (Kd.R_lt (by (with_reducible repeat (first | apply Kd.R_alloc | apply Kd.R_drewN | apply Kd.R_drew)); exact HO_7.out)) k_ hk, Kd.fresh' (Kd.R_lt (by (with_reducible repeat (first | apply Kd.R_alloc | apply Kd.R_drewN | apply Kd.R_drew)); exact HO_8.out)) k_ hk⟩)); (case aO => exact (by (with_reducible repeat (first | apply Kd.R_alloc | apply Kd.R_drewN | apply Kd.R_drew)); exact Kd.R_mono HO346.out (fun _ hk => ⟨hk.1.2, hk.2⟩))); (case aS => exact (below_size (by repeat (first | (with_reducible first | exact HB.out | apply below_alloc | apply pw_below_drewN | apply below_drew1) | exact HB.out)))); (case aL => have := LMc22.out; omega); intro v348 w46 ho hb hg hat; rw [← Ny347.out] at ho; have n0_ := Aside0.mk (Kd.R_after (ok := (fun k_ => some k_ ≠ (u8 : Value).ownBlock)) (by (with_reducible repeat (first | apply Kd.R_alloc | apply Kd.R_drewN | apply Kd.R_drew)); exact HO_7.out) hg hat); have n1_ := Aside0.mk (Kd.R_after (ok := (fun k_ => some k_ ≠ (.slice Ao47 x7_1.length co47 : Value).ownBlock)) (by (with_reducible repeat (first | apply Kd.R_alloc | apply Kd.R_drewN | apply Kd.R_drew)); exact HO_8.out) hg hat); have n2_ := Aside0.mk (hb); have n3_ := Aside0.mk (ho); clear HO_7; clear HO_8; clear HB; clear HO346; have HO_7 := n0_; have HO_8 := n1_; have HB := n2_; have HO349 := n3_; clear n0_ n1_ n2_ n3_; clear ho hb hg hat; obtain ⟨Ao49, co49, eo49⟩ := Kd.R_slice HO_8.out; subst eo49) | ((with_reducible refine gate_builtin (b := .append) (xs := #[.tmp 64, .tmp 65]) rfl ?_); (try (refine gate_guard (by rfl) ?_; dsimp only)); at_builtin; refine Kd.R_append_rows (Kd.int .i64) (w0 := w) w.heap.size rfl (.tmp 64) (.tmp 65) 28 3 (.int .i64 0) 8 rfl Try.underlying28 info3 rfl (by decide) (by omega) v348 y347 x8_2 _ _ _ (fun k_ => some k_ ≠ (.slice Ao47 x7_1.length co47 : Value).ownBlock ∧ some k_ ≠ (.slice Ao49 x8_2.length co49 : Value).ownBlock) (fun _ => False) rfl rfl ?aO ?aR (fun _ _ h => h) (fun _ h => h.elim) ?aF ?aB ?aS ?aL ?_; (case aR => repeat (first | exact (Kd.R_reads' HO_8.out).2.2 | (with_reducible refine Kd.C_alloc ?_ _) | (with_reducible refine Kd.C_drewN ?_ _) | (with_reducible refine Kd.C_drew ?_))); (case aB => exact (by repeat (first | (with_reducible first | exact HB.out | apply below_alloc | apply pw_below_drewN | apply below_drew1) | exact HB.out))); (case aF => exact (fun k_ hk => ⟨Kd.fresh' (Kd.R_lt (by (with_reducible repeat (first | apply Kd.R_alloc | apply Kd.R_drewN | apply Kd.R_drew)); exact HO_7.out)) k_ hk, Kd.fresh' (Kd.R_lt (by (with_reducible repeat (first | apply Kd.R_alloc | apply Kd.R_drewN | apply Kd.R_drew)); exact HO_8.out)) k_ hk⟩)); (case aO => exact (by (with_reducible repeat (first | apply Kd.R_alloc | apply Kd.R_drewN | apply Kd.R_drew)); exact HO349.out)); (case aS => exact (below_size (by repeat (first | (with_reducible first | exact HB.out | apply below_alloc | apply pw_below_drewN | apply below_drew1) | exact HB.out)))); (case aL => have := LMc23.out; omega); intro v351 w48 ho hb hg hat; rw [← Ny350.out] at ho; have n0_ := Aside0.mk (Kd.R_after (ok := (fun k_ => some k_ ≠ (.slice Ao49 x8_2.length co49 : Value).ownBlock)) (by (with_reducible repeat (first | apply Kd.R_alloc | apply Kd.R_drewN | apply Kd.R_drew)); exact HO_7.out) hg hat); have n1_ := Aside0.mk (Kd.R_after (ok := (fun k_ => some k_ ≠ (.slice Ao47 x7_1.length co47 : Value).ownBlock)) (by (with_reducible repeat (first | apply Kd.R_alloc | apply Kd.R_drewN | apply Kd.R_drew)); exact HO_8.out) hg hat); have n2_ := Aside0.mk (hb); have n3_ := Aside0.mk (ho); clear HO_7; clear HO_8; clear HB; clear HO349; have HO_7 := n0_; have HO_8 := n1_; have HB := n2_; have HO352 := n3_; clear n0_ n1_ n2_ n3_; clear ho hb hg hat) | ((with_reducible refine gate_callee (f := 40) rfl ?_); refine goesL_ (some 69) rfl rfl Try.func40 (by kernel_rfl) rfl #[.slice Ao47 x7_1.length co47] rfl (by (try simp only [List.map_toArray, List.map_cons, List.map_nil]); first | done | rfl | (simp only [List.length_drop, List.length_take]; rfl)) ?_; (with_reducible refine (varint_All.calls k2 _ _ x7_1 t353 t354 _ ?side1 ?side2 A24.out).mono ?_); (case side1 => repeat (first | exact (Kd.R_reads' HO_7.out).2.2 | (with_reducible refine Kd.C_alloc ?_ _) | (with_reducible refine Kd.C_drewN ?_ _) | (with_reducible refine Kd.C_drew ?_))); (case side2 => exact (Kd.R_reads' HO_7.out).2.1); rintro e w50 ⟨rfl, hb⟩; refine ⟨_, rfl, ?_⟩; have n0_ := Aside0.mk (Kd.R_below (by (with_reducible repeat (first | apply Kd.R_alloc | apply Kd.R_drewN | apply Kd.R_drew)); exact HO_7.out) hb); have n1_ := Aside0.mk (Kd.R_below (by (with_reducible repeat (first | apply Kd.R_alloc | apply Kd.R_drewN | apply Kd.R_drew)); exact HO_8.out) hb); have n2_ := Aside0.mk (Kd.R_below (by (with_reducible repeat (first | apply Kd.R_alloc | apply Kd.R_drewN | apply Kd.R_drew)); exact HO352.out) hb); have n3_ := Aside0.mk (below_step (by repeat (first | (with_reducible first | exact HB.out | apply below_alloc | apply pw_below_drewN | apply below_drew1) | exact HB.out)) hb); clear HO_7; clear HO_8; clear HO352; clear HB; have HO_7 := n0_; have HO_8 := n1_; have HO352 := n2_; have HB := n3_; clear n0_ n1_ n2_ n3_; (try clear hb); (try clear hb2); (try clear hk); (try clear hi)) | ((with_reducible refine gate_callee (f := 40) rfl ?_); refine goesL_ (some 74) rfl rfl Try.func40 (by kernel_rfl) rfl #[.slice Ao49 x8_2.length co49] rfl (by (try simp only [List.map_toArray, List.map_cons, List.map_nil]); first | done | rfl | (simp only [List.length_drop, List.length_take]; rfl)) ?_; (with_reducible refine (varint_All.calls k2 _ _ x8_2 t355 t356 _ ?side1 ?side2 A25.out).mono ?_); (case side1 => repeat (first | exact (Kd.R_reads' HO_8.out).2.2 | (with_reducible refine Kd.C_alloc ?_ _) | (with_reducible refine Kd.C_drewN ?_ _) | (with_reducible refine Kd.C_drew ?_))); (case side2 => exact (Kd.R_reads' HO_8.out).2.1); rintro e w51 ⟨rfl, hb⟩; refine ⟨_, rfl, ?_⟩; have n0_ := Aside0.mk (Kd.R_below (by (with_reducible repeat (first | apply Kd.R_alloc | apply Kd.R_drewN | apply Kd.R_drew)); exact HO_7.out) hb); have n1_ := Aside0.mk (Kd.R_below (by (with_reducible repeat (first | apply Kd.R_alloc | apply Kd.R_drewN | apply Kd.R_drew)); exact HO_8.out) hb); have n2_ := Aside0.mk (Kd.R_below (by (with_reducible repeat (first | apply Kd.R_alloc | apply Kd.R_drewN | apply Kd.R_drew)); exact HO352.out) hb); have n3_ := Aside0.mk (below_step (by repeat (first | (with_reducible first | exact HB.out | apply below_alloc | apply pw_below_drewN | apply below_drew1) | exact HB.out)) hb); clear HO_7; clear HO_8; clear HO352; clear HB; have HO_7 := n0_; have HO_8 := n1_; have HO352 := n2_; have HB := n3_; clear n0_ n1_ n2_ n3_; (try clear hb); (try clear hb2); (try clear hk); (try clear hi); obtain ⟨Ao52, co52, eo52⟩ := Kd.R_slice HO352.out; subst eo52) | ((with_reducible refine gate_callee (f := 40) rfl ?_); refine goesL_ (some 79) rfl rfl Try.func40 (by kernel_rfl) rfl #[.slice Ao52 y350.length co52] rfl (by (try simp only [List.map_toArray, List.map_cons, List.map_nil]); first | done | rfl | (simp only [List.length_drop, List.length_take]; rfl)) ?_; (with_reducible refine (varint_All.calls k2 _ _ y350 t357 t358 _ ?side1 ?side2 A26.out).mono ?_); (case side1 => repeat (first | exact (Kd.R_reads' HO352.out).2.2 | (with_reducible refine Kd.C_alloc ?_ _) | (with_reducible refine Kd.C_drewN ?_ _) | (with_reducible refine Kd.C_drew ?_))); (case side2 => exact (Kd.R_reads' HO352.out).2.1); rintro e w53 ⟨rfl, hb⟩; refine ⟨_, rfl, ?_⟩; have n0_ := Aside0.mk (Kd.R_below (by (with_reducible repeat (first | apply Kd.R_alloc | apply Kd.R_drewN | apply Kd.R_drew)); exact HO_7.out) hb); have n1_ := Aside0.mk (Kd.R_below (by (with_reducible repeat (first | apply Kd.R_alloc | apply Kd.R_drewN | apply Kd.R_drew)); exact HO_8.out) hb); have n2_ := Aside0.mk (Kd.R_below (by (with_reducible repeat (first | apply Kd.R_alloc | apply Kd.R_drewN | apply Kd.R_drew)); exact HO352.out) hb); have n3_ := Aside0.mk (below_step (by repeat (first | (with_reducible first | exact HB.out | apply below_alloc | apply pw_below_drewN | apply below_drew1) | exact HB.out)) hb); clear HO_7; clear HO_8; clear HO352; clear HB; have HO_7 := n0_; have HO_8 := n1_; have HO352 := n2_; have HB := n3_; clear n0_ n1_ n2_ n3_; (try clear hb); (try clear hb2); (try clear hk); (try clear hi)) | ((with_reducible refine gate_callee (f := 41) rfl ?_); refine goesL_ (some 86) rfl rfl Try.func41 (by kernel_rfl) rfl #[.string (t353 ++ t355)] rfl (by (try simp only [List.map_toArray, List.map_cons, List.map_nil]); first | done | rfl | (simp only [List.length_drop, List.length_take]; rfl)) ?_; (with_reducible refine (varint_Every.calls k2 (t353 ++ t355) t359 t360 _ A28.out).mono ?_); rintro e w54 ⟨v361, rfl, ho0, hb⟩; refine ⟨_, rfl, ?_⟩; have n0_ := Aside0.mk (Kd.R_elder' (by (with_reducible repeat (first | apply Kd.R_alloc | apply Kd.R_drewN | apply Kd.R_drew)); exact HO_7.out) (Kd.R_base ho0) hb); have n1_ := Aside0.mk (Kd.R_elder' (by (with_reducible repeat (first | apply Kd.R_alloc | apply Kd.R_drewN | apply Kd.R_drew)); exact HO_8.out) (Kd.R_base ho0) hb); have n2_ := Aside0.mk (Kd.R_elder' (by (with_reducible repeat (first | apply Kd.R_alloc | apply Kd.R_drewN | apply Kd.R_drew)); exact HO352.out) (Kd.R_base ho0) hb); have n3_ := Aside0.mk (Kd.R_lower (Kd.R_new' (Kd.R_new' (Kd.R_new' ho0 (Kd.R_lt (by (with_reducible repeat (first | apply Kd.R_alloc | apply Kd.R_drewN | apply Kd.R_drew)); exact HO_7.out))) (Kd.R_lt (by (with_reducible repeat (first | apply Kd.R_alloc | apply Kd.R_drewN | apply Kd.R_drew)); exact HO_8.out))) (Kd.R_lt (by (with_reducible repeat (first | apply Kd.R_alloc | apply Kd.R_drewN | apply Kd.R_drew)); exact HO352.out))) (below_size (by repeat (first | (with_reducible first | exact HB.out | apply below_alloc | apply pw_below_drewN | apply below_drew1) | exact HB.out)))); have n4_ := Aside0.mk (below_step (by repeat (first | (with_reducible first | exact HB.out | apply below_alloc | apply pw_below_drewN | apply below_drew1) | exact HB.out)) hb); clear HO_7; clear HO_8; clear HO352; clear HB; have HO_7 := n0_; have HO_8 := n1_; have HO352 := n2_; have HO362 := n3_; have HB := n4_; clear n0_ n1_ n2_ n3_ n4_; (try clear hb); (try clear hb2); (try clear hk); (try clear hi); (try clear ho0)) | ((with_reducible refine gate_callee (f := 26) rfl ?_); refine goesL_ (some 96) rfl rfl Try.func26 (by kernel_rfl) rfl #[.int .i64 (wrap64 ((wrap64 (Int.tmod (IntKind.u64.wrap (a2)) 2147483648)) - 1073741824))] rfl (by (try simp only [List.map_toArray, List.map_cons, List.map_nil]); first | done | rfl | (simp only [List.length_drop, List.length_take]; rfl)) ?_; (with_reducible refine (varint_Sign.calls (wrap64 ((wrap64 (Int.tmod (IntKind.u64.wrap (a2)) 2147483648)) - 1073741824)) t363 t364 _ A29.out).mono ?_); rintro e w55 ⟨rfl, hb⟩; refine ⟨_, rfl, ?_⟩; have n0_ := Aside0.mk (Kd.R_below (by (with_reducible repeat (first | apply Kd.R_alloc | apply Kd.R_drewN | apply Kd.R_drew)); exact HO_7.out) hb); have n1_ := Aside0.mk (Kd.R_below (by (with_reducible repeat (first | apply Kd.R_alloc | apply Kd.R_drewN | apply Kd.R_drew)); exact HO_8.out) hb); have n2_ := Aside0.mk (Kd.R_below (by (with_reducible repeat (first | apply Kd.R_alloc | apply Kd.R_drewN | apply Kd.R_drew)); exact HO352.out) hb); have n3_ := Aside0.mk (Kd.R_below (by (with_reducible repeat (first | apply Kd.R_alloc | apply Kd.R_drewN | apply Kd.R_drew)); exact HO362.out) hb); have n4_ := Aside0.mk (below_step (by repeat (first | (with_reducible first | exact HB.out | apply below_alloc | apply pw_below_drewN | apply below_drew1) | exact HB.out)) hb); clear HO_7; clear HO_8; clear HO352; clear HO362; clear HB; have HO_7 := n0_; have HO_8 := n1_; have HO352 := n2_; have HO362 := n3_; have HB := n4_; clear n0_ n1_ n2_ n3_ n4_; (try clear hb); (try clear hb2); (try clear hk); (try clear hi)) | ((with_reducible refine gate_callee (f := 41) rfl ?_); refine goesL_ (some 101) rfl rfl Try.func41 (by kernel_rfl) rfl #[.string t363] rfl (by (try simp only [List.map_toArray, List.map_cons, List.map_nil]); first | done | rfl | (simp only [List.length_drop, List.length_take]; rfl)) ?_; (with_reducible refine (varint_Every.calls k2 t363 t365 t366 _ A30.out).mono ?_); rintro e w56 ⟨v367, rfl, ho0, hb⟩; refine ⟨_, rfl, ?_⟩; have n0_ := Aside0.mk (Kd.R_elder' (by (with_reducible repeat (first | apply Kd.R_alloc | apply Kd.R_drewN | apply Kd.R_drew)); exact HO_7.out) (Kd.R_base ho0) hb); have n1_ := Aside0.mk (Kd.R_elder' (by (with_reducible repeat (first | apply Kd.R_alloc | apply Kd.R_drewN | apply Kd.R_drew)); exact HO_8.out) (Kd.R_base ho0) hb); have n2_ := Aside0.mk (Kd.R_elder' (by (with_reducible repeat (first | apply Kd.R_alloc | apply Kd.R_drewN | apply Kd.R_drew)); exact HO352.out) (Kd.R_base ho0) hb); have n3_ := Aside0.mk (Kd.R_elder' (by (with_reducible repeat (first | apply Kd.R_alloc | apply Kd.R_drewN | apply Kd.R_drew)); exact HO362.out) (Kd.R_base ho0) hb); have n4_ := Aside0.mk (Kd.R_lower (Kd.R_new' (Kd.R_new' (Kd.R_new' (Kd.R_new' ho0 (Kd.R_lt (by (with_reducible repeat (first | apply Kd.R_alloc | apply Kd.R_drewN | apply Kd.R_drew)); exact HO_7.out))) (Kd.R_lt (by (with_reducible repeat (first | apply Kd.R_alloc | apply Kd.R_drewN | apply Kd.R_drew)); exact HO_8.out))) (Kd.R_lt (by (with_reducible repeat (first | apply Kd.R_alloc | apply Kd.R_drewN | apply Kd.R_drew)); exact HO352.out))) (Kd.R_lt (by (with_reducible repeat (first | apply Kd.R_alloc | apply Kd.R_drewN | apply Kd.R_drew)); exact HO362.out))) (below_size (by repeat (first | (with_reducible first | exact HB.out | apply below_alloc | apply pw_below_drewN | apply below_drew1) | exact HB.out)))); have n5_ := Aside0.mk (below_step (by repeat (first | (with_reducible first | exact HB.out | apply below_alloc | apply pw_below_drewN | apply below_drew1) | exact HB.out)) hb); clear HO_7; clear HO_8; clear HO352; clear HO362; clear HB; have HO_7 := n0_; have HO_8 := n1_; have HO352 := n2_; have HO362 := n3_; have HO368 := n4_; have HB := n5_; clear n0_ n1_ n2_ n3_ n4_ n5_; (try clear hb); (try clear hb2); (try clear hk); (try clear hi); (try clear ho0)) | ((with_reducible refine gate_callee (f := 24) rfl ?_); refine goesL_ (some 104) rfl rfl Try.func24 (by kernel_rfl) rfl #[] rfl (by (try simp only [List.map_toArray, List.map_cons, List.map_nil]); first | done | rfl | (simp only [List.length_drop, List.length_take]; rfl)) ?_; (with_reducible refine (plaitlaw03_alive.calls k2  true _ A31.out).mono ?_); rintro e w57 ⟨rfl, hb⟩; refine ⟨_, rfl, ?_⟩; have n0_ := Aside0.mk (Kd.R_below (by (with_reducible repeat (first | apply Kd.R_alloc | apply Kd.R_drewN | apply Kd.R_drew)); exact HO_7.out) hb); have n1_ := Aside0.mk (Kd.R_below (by (with_reducible repeat (first | apply Kd.R_alloc | apply Kd.R_drewN | apply Kd.R_drew)); exact HO_8.out) hb); have n2_ := Aside0.mk (Kd.R_below (by (with_reducible repeat (first | apply Kd.R_alloc | apply Kd.R_drewN | apply Kd.R_drew)); exact HO352.out) hb); have n3_ := Aside0.mk (Kd.R_below (by (with_reducible repeat (first | apply Kd.R_alloc | apply Kd.R_drewN | apply Kd.R_drew)); exact HO362.out) hb); have n4_ := Aside0.mk (Kd.R_below (by (with_reducible repeat (first | apply Kd.R_alloc | apply Kd.R_drewN | apply Kd.R_drew)); exact HO368.out) hb); have n5_ := Aside0.mk (below_step (by repeat (first | (with_reducible first | exact HB.out | apply below_alloc | apply pw_below_drewN | apply below_drew1) | exact HB.out)) hb); clear HO_7; clear HO_8; clear HO352; clear HO362; clear HO368; clear HB; have HO_7 := n0_; have HO_8 := n1_; have HO352 := n2_; have HO362 := n3_; have HO368 := n4_; have HB := n5_; clear n0_ n1_ n2_ n3_ n4_ n5_; (try clear hb); (try clear hb2); (try clear hk); (try clear hi); obtain ⟨Ao58, co58, eo58⟩ := Kd.R_slice HO362.out; subst eo58) | (go_at_call 38; (with_reducible refine (plaitref01_Rows.calls k2 _ _ t359 _ _ y350 true _ ?side1 ?side2 ?side3 ?side4 A40.out).mono ?_); (case side1 => repeat (first | exact (Kd.R_reads' HO362.out).2.2 | (with_reducible refine Kd.C_alloc ?_ _) | (with_reducible refine Kd.C_drewN ?_ _) | (with_reducible refine Kd.C_drew ?_))); (case side2 => exact (Kd.R_reads' HO362.out).2.1); (case side3 => repeat (first | exact (Kd.R_reads' HO352.out).2.2 | (with_reducible refine Kd.C_alloc ?_ _) | (with_reducible refine Kd.C_drewN ?_ _) | (with_reducible refine Kd.C_drew ?_))); (case side4 => exact (Kd.R_reads' HO352.out).2.1); rintro e w' ⟨rfl, ⟨nd, rfl⟩⟩; obtain ⟨Ao59, co59, eo59⟩ := Kd.R_slice HO368.out; subst eo59; have p371 : 0 ≤ (0 : Int) := (by omega); have q371 : 0 < (t365.length : Int) := of_decide_eq_true (by first | (with_reducible assumption) | assumption); obtain ⟨ad371, e371, hx371_0⟩ := Kd.at_int (Kd.R_reads' HO368.out).2.2 0 p371 q371; cases e371; have qi371 : (0 < t365.length) = True := eq_true (by omega); (try rw [show ((0 : Int)).toNat = 0 from rfl] at hx371_0); (try rw [Addr.add_zero'] at hx371_0); replace p371 := eq_true p371; replace q371 := eq_true q371))
                                                  go_ret
                                                  exact ⟨by first | rfl | (simp [errW_none, errW_some] <;> rfl) | (simp only [← hji4, ← hji13]; first | rfl | (simp [errW_none, errW_some] <;> rfl)) | (simp [*, errW_none, errW_some] <;> rfl), by repeat (first | (with_reducible first | exact HB.out | apply below_alloc | apply pw_below_drewN | apply below_drew1) | exact HB.out)⟩
                                                · rw [if_neg c43] at H
                                                  exact absurd H (by simp)
                                              · rw [if_neg c42] at H
                                                have c42b0 : ((t365.length : Int) == 1) = false := beq_eq_false_iff_ne.mpr c42
                                                have c42b1 : ((t365.length : Int) != 1) = true := bne_iff_ne.mpr c42
                                                exact absurd (Option.some.inj H) (by rw [hr_.out]; decide)
                                            · replace c41 := Bool.eq_false_iff.mpr c41
                                              subst c41
                                              have H1 : (some false) = some r := by rw [if_neg (show ¬ (false = true) by decide)] at H; exact H
                                              clear H
                                              have H := H1
                                              clear H1
                                              exact absurd (Option.some.inj H) (by rw [hr_.out]; decide)
                                          · rw [if_neg c39] at H
                                            have c39b0 : (t357.toList == (t353 ++ t355).toList) = false := beq_eq_false_iff_ne.mpr c39
                                            have c39b1 : (t357.toList != (t353 ++ t355).toList) = true := bne_iff_ne.mpr c39
                                            exact absurd (Option.some.inj H) (by rw [hr_.out]; decide)
                                        · rw [if_neg c38] at H
                                          have c38b0 : (t366 == 0) = false := beq_eq_false_iff_ne.mpr c38
                                          have c38b1 : (t366 != 0) = true := bne_iff_ne.mpr c38
                                          exact absurd (Option.some.inj H) (by rw [hr_.out]; decide)
                                      · rw [if_neg c37] at H
                                        have c37b0 : (t364 == 0) = false := beq_eq_false_iff_ne.mpr c37
                                        have c37b1 : (t364 != 0) = true := bne_iff_ne.mpr c37
                                        exact absurd (Option.some.inj H) (by rw [hr_.out]; decide)
                                    · rw [if_neg c36] at H
                                      have c36b0 : (t360 == 0) = false := beq_eq_false_iff_ne.mpr c36
                                      have c36b1 : (t360 != 0) = true := bne_iff_ne.mpr c36
                                      exact absurd (Option.some.inj H) (by rw [hr_.out]; decide)
                                  · rw [if_neg c35] at H
                                    have c35b0 : (t358 == 0) = false := beq_eq_false_iff_ne.mpr c35
                                    have c35b1 : (t358 != 0) = true := bne_iff_ne.mpr c35
                                    exact absurd (Option.some.inj H) (by rw [hr_.out]; decide)
                                · rw [if_neg c34] at H
                                  have c34b0 : (t356 == 0) = false := beq_eq_false_iff_ne.mpr c34
                                  have c34b1 : (t356 != 0) = true := bne_iff_ne.mpr c34
                                  exact absurd (Option.some.inj H) (by rw [hr_.out]; decide)
                              · rw [if_neg c33] at H
                                have c33b0 : (t354 == 0) = false := beq_eq_false_iff_ne.mpr c33
                                have c33b1 : (t354 != 0) = true := bne_iff_ne.mpr c33
                                exact absurd (Option.some.inj H) (by rw [hr_.out]; decide)
                            · replace c32 := Bool.eq_false_iff.mpr c32
                              subst c32
                              have H1 : (some false) = some r := by rw [if_neg (show ¬ (false = true) by decide)] at H; exact H
                              clear H
                              have H := H1
                              clear H1
                              exact absurd (Option.some.inj H) (by rw [hr_.out]; decide)
                          · rw [if_neg c27] at H
                            exact absurd H (by simp)
                        · rw [if_neg c23] at H
                          exact absurd H (by simp)
                      · rw [if_neg c22] at H
                        exact absurd H (by simp)
              · rw [if_neg c15] at H
                exact absurd H (by simp)
            · rw [if_neg c14] at H
              exact absurd H (by simp)
    · rw [if_neg c6] at H
      exact absurd H (by simp)
  · rw [if_neg c5] at H
    exact absurd H (by simp)

/-- THE ONE PURE STATEMENT of plaitlaw03_VarintJoins: yours. -/
def plaitlaw03_VarintJoins.Pure : Prop := ∀ (l0 : List Int) (l1 : List Int) (a2 : Int), l0.length ≤ maxLen → l0.length * 8 ≤ 140737488351232 → (∀ x ∈ l0, (Lit.int .i64 x).wf = true) → l1.length ≤ maxLen → l1.length * 8 ≤ 140737488351232 → (∀ x ∈ l1, (Lit.int .i64 x).wf = true) → (Lit.int .i64 a2).wf = true → ∃ k, plaitlaw03_VarintJoins.f k l0 l1 a2 = some true
theorem plaitlaw03_VarintJoins.walk (P : plaitlaw03_VarintJoins.Pure) (a0 : Option Addr) (len0 cap0 : Nat) (z0 : List Int) (a1 : Option Addr) (len1 cap1 : Nat) (z1 : List Int) (a2 : Int) (w : World) (w0 : (a0 = none ∧ len0 = 0 ∧ cap0 = 0 ∧ z0 = []) ∨ ∃ x, a0 = some x ∧ len0 ≤ cap0 ∧ cap0 ≤ maxLen ∧ z0.length = cap0 ∧ (∀ i, i < z0.length → w.cell? (x.add i) = some (.int .i64 (z0.getD i 0))) ∧ ∀ n ∈ z0, (Lit.int .i64 n).wf = true) (y0 : len0 * 8 ≤ 140737488351232) (w1 : (a1 = none ∧ len1 = 0 ∧ cap1 = 0 ∧ z1 = []) ∨ ∃ x, a1 = some x ∧ len1 ≤ cap1 ∧ cap1 ≤ maxLen ∧ z1.length = cap1 ∧ (∀ i, i < z1.length → w.cell? (x.add i) = some (.int .i64 (z1.getD i 0))) ∧ ∀ n ∈ z1, (Lit.int .i64 n).wf = true) (y1 : len1 * 8 ≤ 140737488351232) (w2 : (Lit.int .i64 a2).wf = true) :
    Calls Try.prog 13 #[.slice a0 len0 cap0, .slice a1 len1 cap1, .int .i64 a2] w fun e w' => e = .returned (.bool true) ∧ Below w.heap.size w w' := by
  obtain ⟨l0, rfl, hr0, hm0, hw0, hc0⟩ := ReadsInt.ofRowC w0
  obtain ⟨l1, rfl, hr1, hm1, hw1, hc1⟩ := ReadsInt.ofRowC w1
  obtain ⟨k, h⟩ := P l0 l1 a2 hm0 y0 hw0 hm1 y1 hw1 w2
  refine (plaitlaw03_VarintJoins.calls k _ _ l0 _ _ l1 a2 true w (Kd.C_of_reads (d := (0 : Int)) (h1 := fun _ => rfl) hr0) hc0 (Kd.C_of_reads (d := (0 : Int)) (h1 := fun _ => rfl) hr1) hc1 h ⟨rfl⟩).mono ?_
  rintro e w' ⟨rfl, hd⟩
  exact ⟨rfl, hd⟩

end Go.Proofs.Ytipmoncamnafbaa.X
