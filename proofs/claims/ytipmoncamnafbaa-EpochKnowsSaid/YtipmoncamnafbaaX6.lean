/- Contracts of functions, and walks of laws, written by this session's own program (wip/tools/xprint.py, a driver round the kit's print) out of Lean's print of the loaded program. Lean checks them. -/
import Derived.Test.YtipmoncamnafbaaX0
import Derived.Test.YtipmoncamnafbaaX1
import Derived.Test.YtipmoncamnafbaaX4
import Derived.Test.YtipmoncamnafbaaGiven
namespace Go.Proofs.Ytipmoncamnafbaa.X
open Go.RowKit Go.Proofs.YtipmoncamnafbaaW.PrintWords Go.Proofs.YtipmoncamnafbaaW.PrintLast Go.Proofs.YtipmoncamnafbaaW.PrintMore
attribute [local go_sem] max2_int min2_int max_two min_two max_three min_three max_four min_four   -- for this text's walks alone
set_option linter.unusedVariables false
set_option linter.unusedSimpArgs false

/-! ### plaitlaw02_EpochKnows: function 15 -/
mutual
def plaitlaw02_EpochKnows.j0 : Nat → List Int → Int → Int → Int → Bool → Option (Bool)
  | 0, _, _, _, _, _ => none
  | k + 1, x0, x1, x2, x7, x68 => if x68 = true then (some false) else ((epoch_Known.f x7 x0).bind fun bt181 => (if 16 ≤ 35184372088832 then ((some (List.replicate 16 0 : List Int)).bind fun y183 => (if 0 ≤ x2 then (if x2 < (y183.length : Int) then ((vclock_Leq.f (y183.set (x2 : Int).toNat x1) x0).bind fun bt187 => (if bt181.2 = 0 then (if bt187.2 = 0 then (plaitlaw02_EpochKnows.j1 k x0 x2 (bt181.1 != bt187.1)) else (plaitlaw02_EpochKnows.j1 k x0 x2 true)) else (if bt181.2 = 1 then (some (bt187.2 == 1)) else (some false)))) else (none)) else (none))) else (none)))
def plaitlaw02_EpochKnows.j1 : Nat → List Int → Int → Bool → Option (Bool)
  | 0, _, _, _ => none
  | k + 1, x0, x2, x100 => if x100 = true then (some false) else ((vclock_At.f x0 x2).bind fun bt189 => ((vclock_Tick.f x0 x2).bind fun bt191 => (if bt189.2 = 0 then (plaitlaw02_EpochKnows.j2 k x0 x2 bt189.1 bt191.1 bt191.2 (bt191.2 != 0)) else (plaitlaw02_EpochKnows.j2 k x0 x2 bt189.1 bt191.1 bt191.2 true))))
def plaitlaw02_EpochKnows.j2 : Nat → List Int → Int → Int → List Int → Int → Bool → Option (Bool)
  | 0, _, _, _, _, _, _ => none
  | k + 1, x0, x2, x17, x19, x20, x118 => if x118 = true then (some (x20 == 8)) else ((epoch_Pack.f k (wrap64 (x17 + 1)) x2).bind fun bt195 => ((epoch_Known.f bt195.1 x19).bind fun bt197 => ((epoch_Known.f bt195.1 x0).bind fun bt199 => (if bt195.2 = 0 then (if bt197.2 = 0 then (if bt199.2 = 0 then (if bt197.1 = true then (some (!bt199.1)) else (some false)) else (some false)) else (some false)) else (some false)))))
end
def plaitlaw02_EpochKnows.f (k : Nat) (l0 : List Int) (a1 : Int) (a2 : Int) : Option (Bool) := (plaitlaw02_few.f l0).bind fun t172 => ((epoch_Pack.f k (wrap64 (Int.tmod (IntKind.u64.wrap (a1)) 1099511627776)) (Int.tmod (wrap64 ((Int.tmod a2 16) + 16)) 16)).bind fun bt175 => ((epoch_Unpack.f bt175.1).bind fun bt177 => (if bt175.2 = 0 then (if bt177.2.2 = 0 then (if bt177.1 = (wrap64 (Int.tmod (IntKind.u64.wrap (a1)) 1099511627776)) then (if bt177.2.1 = (Int.tmod (wrap64 ((Int.tmod a2 16) + 16)) 16) then ((plaitlaw02_alive.f k).bind fun t180 => (plaitlaw02_EpochKnows.j0 k t172 (wrap64 (Int.tmod (IntKind.u64.wrap (a1)) 1099511627776)) (Int.tmod (wrap64 ((Int.tmod a2 16) + 16)) 16) bt175.1 (!t180))) else (plaitlaw02_EpochKnows.j0 k t172 (wrap64 (Int.tmod (IntKind.u64.wrap (a1)) 1099511627776)) (Int.tmod (wrap64 ((Int.tmod a2 16) + 16)) 16) bt175.1 true)) else (plaitlaw02_EpochKnows.j0 k t172 (wrap64 (Int.tmod (IntKind.u64.wrap (a1)) 1099511627776)) (Int.tmod (wrap64 ((Int.tmod a2 16) + 16)) 16) bt175.1 true)) else (plaitlaw02_EpochKnows.j0 k t172 (wrap64 (Int.tmod (IntKind.u64.wrap (a1)) 1099511627776)) (Int.tmod (wrap64 ((Int.tmod a2 16) + 16)) 16) bt175.1 true)) else (plaitlaw02_EpochKnows.j0 k t172 (wrap64 (Int.tmod (IntKind.u64.wrap (a1)) 1099511627776)) (Int.tmod (wrap64 ((Int.tmod a2 16) + 16)) 16) bt175.1 true))))
theorem plaitlaw02_EpochKnows.mono_l : ∀ k, (∀ y0 y1 y2 y3 y4, LeO (plaitlaw02_EpochKnows.j0 k y0 y1 y2 y3 y4) (plaitlaw02_EpochKnows.j0 (k + 1) y0 y1 y2 y3 y4)) ∧ (∀ y0 y1 y2, LeO (plaitlaw02_EpochKnows.j1 k y0 y1 y2) (plaitlaw02_EpochKnows.j1 (k + 1) y0 y1 y2)) ∧ (∀ y0 y1 y2 y3 y4 y5, LeO (plaitlaw02_EpochKnows.j2 k y0 y1 y2 y3 y4 y5) (plaitlaw02_EpochKnows.j2 (k + 1) y0 y1 y2 y3 y4 y5))
  | 0 => ⟨fun _ _ _ _ _ r h => by simp [plaitlaw02_EpochKnows.j0] at h, fun _ _ _ r h => by simp [plaitlaw02_EpochKnows.j1] at h, fun _ _ _ _ _ _ r h => by simp [plaitlaw02_EpochKnows.j2] at h⟩
  | k + 1 => by
    obtain ⟨ih0, ih1, ih2⟩ := plaitlaw02_EpochKnows.mono_l k
    refine ⟨?_, ?_, ?_⟩
    · intro y0 y1 y2 y3 y4
      unfold plaitlaw02_EpochKnows.j0
      repeat' first
      | (with_reducible exact ih0 _ _ _ _ _)
      | (with_reducible exact ih1 _ _ _)
      | (with_reducible exact ih2 _ _ _ _ _ _)
      | (with_reducible exact epoch_Pack.mono _ _ _)
      | (with_reducible exact plaitlaw02_alive.mono _)
      | (with_reducible exact LeO.refl _)
      | (with_reducible exact LeO.none _)
      | (with_reducible refine LeO.ite ?_ ?_)
      | (with_reducible refine LeO.bind ?_ (fun _ => ?_))
      | exact ih0 _ _ _ _ _
      | exact ih1 _ _ _
      | exact ih2 _ _ _ _ _ _
      | exact epoch_Pack.mono _ _ _
      | exact plaitlaw02_alive.mono _
      | exact LeO.none _
      | refine LeO.ite ?_ ?_
      | refine LeO.bind ?_ (fun _ => ?_)
    · intro y0 y1 y2
      unfold plaitlaw02_EpochKnows.j1
      repeat' first
      | (with_reducible exact ih0 _ _ _ _ _)
      | (with_reducible exact ih1 _ _ _)
      | (with_reducible exact ih2 _ _ _ _ _ _)
      | (with_reducible exact epoch_Pack.mono _ _ _)
      | (with_reducible exact plaitlaw02_alive.mono _)
      | (with_reducible exact LeO.refl _)
      | (with_reducible exact LeO.none _)
      | (with_reducible refine LeO.ite ?_ ?_)
      | (with_reducible refine LeO.bind ?_ (fun _ => ?_))
      | exact ih0 _ _ _ _ _
      | exact ih1 _ _ _
      | exact ih2 _ _ _ _ _ _
      | exact epoch_Pack.mono _ _ _
      | exact plaitlaw02_alive.mono _
      | exact LeO.none _
      | refine LeO.ite ?_ ?_
      | refine LeO.bind ?_ (fun _ => ?_)
    · intro y0 y1 y2 y3 y4 y5
      unfold plaitlaw02_EpochKnows.j2
      repeat' first
      | (with_reducible exact ih0 _ _ _ _ _)
      | (with_reducible exact ih1 _ _ _)
      | (with_reducible exact ih2 _ _ _ _ _ _)
      | (with_reducible exact epoch_Pack.mono _ _ _)
      | (with_reducible exact plaitlaw02_alive.mono _)
      | (with_reducible exact LeO.refl _)
      | (with_reducible exact LeO.none _)
      | (with_reducible refine LeO.ite ?_ ?_)
      | (with_reducible refine LeO.bind ?_ (fun _ => ?_))
      | exact ih0 _ _ _ _ _
      | exact ih1 _ _ _
      | exact ih2 _ _ _ _ _ _
      | exact epoch_Pack.mono _ _ _
      | exact plaitlaw02_alive.mono _
      | exact LeO.none _
      | refine LeO.ite ?_ ?_
      | refine LeO.bind ?_ (fun _ => ?_)
theorem plaitlaw02_EpochKnows.mono : ∀ a0 a1 a2 k, LeO (plaitlaw02_EpochKnows.f k a0 a1 a2) (plaitlaw02_EpochKnows.f (k + 1) a0 a1 a2) := by
  intro a0 a1 a2 k
  obtain ⟨ih0, ih1, ih2⟩ := plaitlaw02_EpochKnows.mono_l k
  unfold plaitlaw02_EpochKnows.f
  repeat' first
      | (with_reducible exact ih0 _ _ _ _ _)
      | (with_reducible exact ih1 _ _ _)
      | (with_reducible exact ih2 _ _ _ _ _ _)
      | (with_reducible exact epoch_Pack.mono _ _ _)
      | (with_reducible exact plaitlaw02_alive.mono _)
      | (with_reducible exact LeO.refl _)
      | (with_reducible exact LeO.none _)
      | (with_reducible refine LeO.ite ?_ ?_)
      | (with_reducible refine LeO.bind ?_ (fun _ => ?_))
      | exact ih0 _ _ _ _ _
      | exact ih1 _ _ _
      | exact ih2 _ _ _ _ _ _
      | exact epoch_Pack.mono _ _ _
      | exact plaitlaw02_alive.mono _
      | exact LeO.none _
      | refine LeO.ite ?_ ?_
      | refine LeO.bind ?_ (fun _ => ?_)
set_option maxHeartbeats 8000000 in
set_option maxRecDepth 100000 in
theorem plaitlaw02_EpochKnows.calls (k : Nat) (A0 : Option Addr) (c0 : Nat) (l0 : List Int) (a1 : Int) (a2 : Int) (r : Bool) (w : World) (hr0 : Kd.C (Kd.int .i64) w A0 l0.length l0) (hc0 : l0.length ≤ c0) (h : plaitlaw02_EpochKnows.f k l0 a1 a2 = some r) (hr_ : Aside0 (r = true)) :
    Calls Try.prog 15 #[.slice A0 l0.length c0, .int .i64 a1, .int .i64 a2] w fun e w' => e = .returned (.bool r) ∧ Below w.heap.size w w' := by
  have HR0 := Aside0.mk hr0
  have HC0 := Aside0.mk hc0
  clear hr0 hc0
  have HB := Aside0.mk (Below.refl w.heap.size w)
  have H : ((plaitlaw02_few.f l0).bind fun t172 => ((epoch_Pack.f k (wrap64 (Int.tmod (IntKind.u64.wrap (a1)) 1099511627776)) (Int.tmod (wrap64 ((Int.tmod a2 16) + 16)) 16)).bind fun bt175 => ((epoch_Unpack.f bt175.1).bind fun bt177 => (if bt175.2 = 0 then (if bt177.2.2 = 0 then (if bt177.1 = (wrap64 (Int.tmod (IntKind.u64.wrap (a1)) 1099511627776)) then (if bt177.2.1 = (Int.tmod (wrap64 ((Int.tmod a2 16) + 16)) 16) then ((plaitlaw02_alive.f k).bind fun t180 => (plaitlaw02_EpochKnows.j0 k t172 (wrap64 (Int.tmod (IntKind.u64.wrap (a1)) 1099511627776)) (Int.tmod (wrap64 ((Int.tmod a2 16) + 16)) 16) bt175.1 (!t180))) else (plaitlaw02_EpochKnows.j0 k t172 (wrap64 (Int.tmod (IntKind.u64.wrap (a1)) 1099511627776)) (Int.tmod (wrap64 ((Int.tmod a2 16) + 16)) 16) bt175.1 true)) else (plaitlaw02_EpochKnows.j0 k t172 (wrap64 (Int.tmod (IntKind.u64.wrap (a1)) 1099511627776)) (Int.tmod (wrap64 ((Int.tmod a2 16) + 16)) 16) bt175.1 true)) else (plaitlaw02_EpochKnows.j0 k t172 (wrap64 (Int.tmod (IntKind.u64.wrap (a1)) 1099511627776)) (Int.tmod (wrap64 ((Int.tmod a2 16) + 16)) 16) bt175.1 true)) else (plaitlaw02_EpochKnows.j0 k t172 (wrap64 (Int.tmod (IntKind.u64.wrap (a1)) 1099511627776)) (Int.tmod (wrap64 ((Int.tmod a2 16) + 16)) 16) bt175.1 true))))) = some r := h
  clear h
  replace H := Option.bind_eq_some_iff.mp H
  obtain ⟨t172, A40, H⟩ := H
  replace H : ((epoch_Pack.f k (wrap64 (Int.tmod (IntKind.u64.wrap (a1)) 1099511627776)) (Int.tmod (wrap64 ((Int.tmod a2 16) + 16)) 16)).bind fun bt175 => ((epoch_Unpack.f bt175.1).bind fun bt177 => (if bt175.2 = 0 then (if bt177.2.2 = 0 then (if bt177.1 = (wrap64 (Int.tmod (IntKind.u64.wrap (a1)) 1099511627776)) then (if bt177.2.1 = (Int.tmod (wrap64 ((Int.tmod a2 16) + 16)) 16) then ((plaitlaw02_alive.f k).bind fun t180 => (plaitlaw02_EpochKnows.j0 k t172 (wrap64 (Int.tmod (IntKind.u64.wrap (a1)) 1099511627776)) (Int.tmod (wrap64 ((Int.tmod a2 16) + 16)) 16) bt175.1 (!t180))) else (plaitlaw02_EpochKnows.j0 k t172 (wrap64 (Int.tmod (IntKind.u64.wrap (a1)) 1099511627776)) (Int.tmod (wrap64 ((Int.tmod a2 16) + 16)) 16) bt175.1 true)) else (plaitlaw02_EpochKnows.j0 k t172 (wrap64 (Int.tmod (IntKind.u64.wrap (a1)) 1099511627776)) (Int.tmod (wrap64 ((Int.tmod a2 16) + 16)) 16) bt175.1 true)) else (plaitlaw02_EpochKnows.j0 k t172 (wrap64 (Int.tmod (IntKind.u64.wrap (a1)) 1099511627776)) (Int.tmod (wrap64 ((Int.tmod a2 16) + 16)) 16) bt175.1 true)) else (plaitlaw02_EpochKnows.j0 k t172 (wrap64 (Int.tmod (IntKind.u64.wrap (a1)) 1099511627776)) (Int.tmod (wrap64 ((Int.tmod a2 16) + 16)) 16) bt175.1 true)))) = some r := H
  have A4 := Aside0.mk A40
  clear A40
  replace H := Option.bind_eq_some_iff.mp H
  obtain ⟨⟨t175, t176⟩, A50, H⟩ := H
  replace H : ((epoch_Unpack.f t175).bind fun bt177 => (if t176 = 0 then (if bt177.2.2 = 0 then (if bt177.1 = (wrap64 (Int.tmod (IntKind.u64.wrap (a1)) 1099511627776)) then (if bt177.2.1 = (Int.tmod (wrap64 ((Int.tmod a2 16) + 16)) 16) then ((plaitlaw02_alive.f k).bind fun t180 => (plaitlaw02_EpochKnows.j0 k t172 (wrap64 (Int.tmod (IntKind.u64.wrap (a1)) 1099511627776)) (Int.tmod (wrap64 ((Int.tmod a2 16) + 16)) 16) t175 (!t180))) else (plaitlaw02_EpochKnows.j0 k t172 (wrap64 (Int.tmod (IntKind.u64.wrap (a1)) 1099511627776)) (Int.tmod (wrap64 ((Int.tmod a2 16) + 16)) 16) t175 true)) else (plaitlaw02_EpochKnows.j0 k t172 (wrap64 (Int.tmod (IntKind.u64.wrap (a1)) 1099511627776)) (Int.tmod (wrap64 ((Int.tmod a2 16) + 16)) 16) t175 true)) else (plaitlaw02_EpochKnows.j0 k t172 (wrap64 (Int.tmod (IntKind.u64.wrap (a1)) 1099511627776)) (Int.tmod (wrap64 ((Int.tmod a2 16) + 16)) 16) t175 true)) else (plaitlaw02_EpochKnows.j0 k t172 (wrap64 (Int.tmod (IntKind.u64.wrap (a1)) 1099511627776)) (Int.tmod (wrap64 ((Int.tmod a2 16) + 16)) 16) t175 true))) = some r := H
  have A5 := Aside0.mk A50
  clear A50
  replace H := Option.bind_eq_some_iff.mp H
  obtain ⟨⟨t177, t178, t179⟩, A60, H⟩ := H
  replace H : (if t176 = 0 then (if t179 = 0 then (if t177 = (wrap64 (Int.tmod (IntKind.u64.wrap (a1)) 1099511627776)) then (if t178 = (Int.tmod (wrap64 ((Int.tmod a2 16) + 16)) 16) then ((plaitlaw02_alive.f k).bind fun t180 => (plaitlaw02_EpochKnows.j0 k t172 (wrap64 (Int.tmod (IntKind.u64.wrap (a1)) 1099511627776)) (Int.tmod (wrap64 ((Int.tmod a2 16) + 16)) 16) t175 (!t180))) else (plaitlaw02_EpochKnows.j0 k t172 (wrap64 (Int.tmod (IntKind.u64.wrap (a1)) 1099511627776)) (Int.tmod (wrap64 ((Int.tmod a2 16) + 16)) 16) t175 true)) else (plaitlaw02_EpochKnows.j0 k t172 (wrap64 (Int.tmod (IntKind.u64.wrap (a1)) 1099511627776)) (Int.tmod (wrap64 ((Int.tmod a2 16) + 16)) 16) t175 true)) else (plaitlaw02_EpochKnows.j0 k t172 (wrap64 (Int.tmod (IntKind.u64.wrap (a1)) 1099511627776)) (Int.tmod (wrap64 ((Int.tmod a2 16) + 16)) 16) t175 true)) else (plaitlaw02_EpochKnows.j0 k t172 (wrap64 (Int.tmod (IntKind.u64.wrap (a1)) 1099511627776)) (Int.tmod (wrap64 ((Int.tmod a2 16) + 16)) 16) t175 true)) = some r := H
  have A6 := Aside0.mk A60
  clear A60
  have HC7 := Aside0.mk H
  clear H
  go_enter Try.func15, Try.ntmps15
  go_upto_region 5 with (first | ((with_reducible refine gate_callee (f := 44) rfl ?_); refine goesL_ (some 28) rfl rfl Try.func44 (by kernel_rfl) rfl #[.slice A0 l0.length c0] rfl (by (try simp only [List.map_toArray, List.map_cons, List.map_nil]); first | done | rfl | (simp only [List.length_drop, List.length_take]; rfl)) ?_; (with_reducible refine (plaitlaw02_few.calls (fun k_ => k_ < w.heap.size) _ _ l0 t172 _ ?side1 A4.out).mono ?_); (case side1 => exact Kd.V_mk HC0.out (Kd.F_below (Kd.C_F (Kd.heap_int .i64) HR0.out) (by repeat (first | (with_reducible first | exact HB.out | apply below_alloc | apply pw_below_drewN | apply below_drew1) | exact HB.out)))); rintro e w8 ⟨v173, rfl, ho0, hb⟩; refine ⟨_, rfl, ?_⟩; have n0_ := Aside0.mk (Kd.V_lower (Kd.V_mono (ok' := fun k_ => True) ho0 (fun k_ hk_ => trivial)) (below_size (by repeat (first | (with_reducible first | exact HB.out | apply below_alloc | apply pw_below_drewN | apply below_drew1) | exact HB.out)))); have n1_ := Aside0.mk (below_step (by repeat (first | (with_reducible first | exact HB.out | apply below_alloc | apply pw_below_drewN | apply below_drew1) | exact HB.out)) hb); clear HB; have HO174 := n0_; have HB := n1_; clear n0_ n1_; (try clear hb); (try clear hb2); (try clear hk); (try clear hi); (try clear ho0)) | ((with_reducible refine gate_callee (f := 21) rfl ?_); refine goesL_ (some 40) rfl rfl Try.func21 (by kernel_rfl) rfl #[.int .i64 (wrap64 (Int.tmod (IntKind.u64.wrap (a1)) 1099511627776)), .int .i64 (Int.tmod (wrap64 ((Int.tmod a2 16) + 16)) 16)] rfl (by (try simp only [List.map_toArray, List.map_cons, List.map_nil]); first | done | rfl | (simp only [List.length_drop, List.length_take]; rfl)) ?_; (with_reducible refine (epoch_Pack.calls k (wrap64 (Int.tmod (IntKind.u64.wrap (a1)) 1099511627776)) (Int.tmod (wrap64 ((Int.tmod a2 16) + 16)) 16) t175 t176 _ A5.out).mono ?_); rintro e w' ⟨rfl, ⟨nd, rfl⟩⟩; refine ⟨_, rfl, ?_⟩) | ((with_reducible refine gate_callee (f := 45) rfl ?_); refine goesL_ (some 45) rfl rfl Try.func45 (by kernel_rfl) rfl #[.int .i64 t175] rfl (by (try simp only [List.map_toArray, List.map_cons, List.map_nil]); first | done | rfl | (simp only [List.length_drop, List.length_take]; rfl)) ?_; (with_reducible refine (epoch_Unpack.calls t175 t177 t178 t179 _ A6.out).mono ?_); rintro e w' ⟨rfl, ⟨nd, rfl⟩⟩; refine ⟨_, rfl, ?_⟩))
  (try simp only [Act.put, List.setIfInBounds_toArray, List.set_cons_zero, List.set_cons_succ])
  go_cut [68] (fun v68 wc => ∃ (kq : Nat) (x68_6 : Bool), v68 = .bool x68_6 ∧ Aside0 (plaitlaw02_EpochKnows.j0 kq t172 (wrap64 (Int.tmod (IntKind.u64.wrap (a1)) 1099511627776)) (Int.tmod (wrap64 ((Int.tmod a2 16) + 16)) 16) t175 x68_6 = some r) ∧ Aside0 (kq ≤ k) ∧ Aside0 (Kd.V (Kd.int .i64) 3 wc w.heap.size (fun _ => True) v173 t172) ∧ Aside0 (Below w.heap.size w wc))
  case first =>
    have H := HC7.out
    clear HC7
    by_cases c9 : t176 = 0
    · rw [if_pos c9] at H
      have c9b0 : (t176 == 0) = true := beq_iff_eq.mpr c9
      have c9b1 : (t176 != 0) = false := bne_eq_false_iff_eq.mpr c9
      clear c9
      (first | rw [c9b0] | (simp only [i64_w, i32_w]; rw [c9b0]) | skip)
      by_cases c10 : t179 = 0
      · rw [if_pos c10] at H
        have c10b0 : (t179 == 0) = true := beq_iff_eq.mpr c10
        have c10b1 : (t179 != 0) = false := bne_eq_false_iff_eq.mpr c10
        clear c10
        by_cases c11 : t177 = (wrap64 (Int.tmod (IntKind.u64.wrap (a1)) 1099511627776))
        · rw [if_pos c11] at H
          have c11b0 : (t177 == (wrap64 (Int.tmod (IntKind.u64.wrap (a1)) 1099511627776))) = true := beq_iff_eq.mpr c11
          have c11b1 : (t177 != (wrap64 (Int.tmod (IntKind.u64.wrap (a1)) 1099511627776))) = false := bne_eq_false_iff_eq.mpr c11
          clear c11
          by_cases c12 : t178 = (Int.tmod (wrap64 ((Int.tmod a2 16) + 16)) 16)
          · rw [if_pos c12] at H
            have c12b0 : (t178 == (Int.tmod (wrap64 ((Int.tmod a2 16) + 16)) 16)) = true := beq_iff_eq.mpr c12
            have c12b1 : (t178 != (Int.tmod (wrap64 ((Int.tmod a2 16) + 16)) 16)) = false := bne_eq_false_iff_eq.mpr c12
            clear c12
            replace H := Option.bind_eq_some_iff.mp H
            obtain ⟨t180, A130, H⟩ := H
            replace H : (plaitlaw02_EpochKnows.j0 k t172 (wrap64 (Int.tmod (IntKind.u64.wrap (a1)) 1099511627776)) (Int.tmod (wrap64 ((Int.tmod a2 16) + 16)) 16) t175 (!t180)) = some r := H
            have A13 := Aside0.mk A130
            clear A130
            have H' := Aside0.mk H
            clear H
            go_wp2_with (first | (go_at_call 18; (with_reducible refine (plaitlaw02_alive.calls k  t180 _ A13.out).mono ?_); rintro e w' ⟨rfl, ⟨nd, rfl⟩⟩))
            go_meet
            case rel => exact ⟨_, (!t180), (by first | rfl | (simp; done) | (simp [*]; done)), H', ⟨by first | omega | exact Nat.le_refl _⟩, ⟨by (with_reducible repeat (first | apply Kd.V_alloc | apply Kd.V_drewN | apply Kd.V_drew)); exact HO174.out⟩, ⟨by repeat (first | (with_reducible first | exact HB.out | apply below_alloc | apply pw_below_drewN | apply below_drew1) | exact HB.out)⟩⟩
          · rw [if_neg c12] at H
            have c12b0 : (t178 == (Int.tmod (wrap64 ((Int.tmod a2 16) + 16)) 16)) = false := beq_eq_false_iff_ne.mpr c12
            have c12b1 : (t178 != (Int.tmod (wrap64 ((Int.tmod a2 16) + 16)) 16)) = true := bne_iff_ne.mpr c12
            have H' := Aside0.mk H
            clear H
            go_wp2
            go_meet
            case rel => exact ⟨_, (true), (by first | rfl | (simp; done) | (simp [*]; done)), H', ⟨by first | omega | exact Nat.le_refl _⟩, ⟨by (with_reducible repeat (first | apply Kd.V_alloc | apply Kd.V_drewN | apply Kd.V_drew)); exact HO174.out⟩, ⟨by repeat (first | (with_reducible first | exact HB.out | apply below_alloc | apply pw_below_drewN | apply below_drew1) | exact HB.out)⟩⟩
        · rw [if_neg c11] at H
          have c11b0 : (t177 == (wrap64 (Int.tmod (IntKind.u64.wrap (a1)) 1099511627776))) = false := beq_eq_false_iff_ne.mpr c11
          have c11b1 : (t177 != (wrap64 (Int.tmod (IntKind.u64.wrap (a1)) 1099511627776))) = true := bne_iff_ne.mpr c11
          have H' := Aside0.mk H
          clear H
          go_wp2
          go_meet
          case rel => exact ⟨_, (true), (by first | rfl | (simp; done) | (simp [*]; done)), H', ⟨by first | omega | exact Nat.le_refl _⟩, ⟨by (with_reducible repeat (first | apply Kd.V_alloc | apply Kd.V_drewN | apply Kd.V_drew)); exact HO174.out⟩, ⟨by repeat (first | (with_reducible first | exact HB.out | apply below_alloc | apply pw_below_drewN | apply below_drew1) | exact HB.out)⟩⟩
      · rw [if_neg c10] at H
        have c10b0 : (t179 == 0) = false := beq_eq_false_iff_ne.mpr c10
        have c10b1 : (t179 != 0) = true := bne_iff_ne.mpr c10
        have H' := Aside0.mk H
        clear H
        go_wp2
        go_meet
        case rel => exact ⟨_, (true), (by first | rfl | (simp; done) | (simp [*]; done)), H', ⟨by first | omega | exact Nat.le_refl _⟩, ⟨by (with_reducible repeat (first | apply Kd.V_alloc | apply Kd.V_drewN | apply Kd.V_drew)); exact HO174.out⟩, ⟨by repeat (first | (with_reducible first | exact HB.out | apply below_alloc | apply pw_below_drewN | apply below_drew1) | exact HB.out)⟩⟩
    · rw [if_neg c9] at H
      have c9b0 : (t176 == 0) = false := beq_eq_false_iff_ne.mpr c9
      have c9b1 : (t176 != 0) = true := bne_iff_ne.mpr c9
      (first | rw [c9b0] | (simp only [i64_w, i32_w]; rw [c9b0]) | skip)
      have H' := Aside0.mk H
      clear H
      go_wp2
      go_meet
      case rel => exact ⟨_, (true), (by first | rfl | (simp; done) | (simp [*]; done)), H', ⟨by first | omega | exact Nat.le_refl _⟩, ⟨by (with_reducible repeat (first | apply Kd.V_alloc | apply Kd.V_drewN | apply Kd.V_drew)); exact HO174.out⟩, ⟨by repeat (first | (with_reducible first | exact HB.out | apply below_alloc | apply pw_below_drewN | apply below_drew1) | exact HB.out)⟩⟩
  case rest =>
    clear HC7
    try clear c1
    try clear c2
    try clear p2
    try clear c4
    try clear p6
    try clear c9
    try clear c9b0
    try clear c9b1
    try clear c10
    try clear c10b0
    try clear c10b1
    try clear c11
    try clear c11b0
    try clear c11b1
    try clear c12
    try clear c12b0
    try clear c12b1
    obtain ⟨kq, x68_6, rfl, HA, HJ6, HO_0, HB⟩ := hcut
    cases kq with
    | zero => exact absurd HA.out (by simp [plaitlaw02_EpochKnows.j0])
    | succ kj6 =>
      have H := HA.out
      clear HA
      simp only [plaitlaw02_EpochKnows.j0] at H
      by_cases c14 : x68_6 = true
      · subst c14
        have H1 : (some false) = some r := by rw [if_pos rfl] at H; exact H
        clear H
        have H := H1
        clear H1
        exact absurd (Option.some.inj H) (by rw [hr_.out]; decide)
      · replace c14 := Bool.eq_false_iff.mpr c14
        subst c14
        have H1 : ((epoch_Known.f t175 t172).bind fun bt181 => (if 16 ≤ 35184372088832 then ((some (List.replicate 16 0 : List Int)).bind fun y183 => (if 0 ≤ (Int.tmod (wrap64 ((Int.tmod a2 16) + 16)) 16) then (if (Int.tmod (wrap64 ((Int.tmod a2 16) + 16)) 16) < (y183.length : Int) then ((vclock_Leq.f (y183.set ((Int.tmod (wrap64 ((Int.tmod a2 16) + 16)) 16) : Int).toNat (wrap64 (Int.tmod (IntKind.u64.wrap (a1)) 1099511627776))) t172).bind fun bt187 => (if bt181.2 = 0 then (if bt187.2 = 0 then (plaitlaw02_EpochKnows.j1 kj6 t172 (Int.tmod (wrap64 ((Int.tmod a2 16) + 16)) 16) (bt181.1 != bt187.1)) else (plaitlaw02_EpochKnows.j1 kj6 t172 (Int.tmod (wrap64 ((Int.tmod a2 16) + 16)) 16) true)) else (if bt181.2 = 1 then (some (bt187.2 == 1)) else (some false)))) else (none)) else (none))) else (none))) = some r := by rw [if_neg (show ¬ (false = true) by decide)] at H; exact H
        clear H
        have H := H1
        clear H1
        replace H := Option.bind_eq_some_iff.mp H
        obtain ⟨⟨t181, t182⟩, A150, H⟩ := H
        replace H : (if 16 ≤ 35184372088832 then ((some (List.replicate 16 0 : List Int)).bind fun y183 => (if 0 ≤ (Int.tmod (wrap64 ((Int.tmod a2 16) + 16)) 16) then (if (Int.tmod (wrap64 ((Int.tmod a2 16) + 16)) 16) < (y183.length : Int) then ((vclock_Leq.f (y183.set ((Int.tmod (wrap64 ((Int.tmod a2 16) + 16)) 16) : Int).toNat (wrap64 (Int.tmod (IntKind.u64.wrap (a1)) 1099511627776))) t172).bind fun bt187 => (if t182 = 0 then (if bt187.2 = 0 then (plaitlaw02_EpochKnows.j1 kj6 t172 (Int.tmod (wrap64 ((Int.tmod a2 16) + 16)) 16) (t181 != bt187.1)) else (plaitlaw02_EpochKnows.j1 kj6 t172 (Int.tmod (wrap64 ((Int.tmod a2 16) + 16)) 16) true)) else (if t182 = 1 then (some (bt187.2 == 1)) else (some false)))) else (none)) else (none))) else (none)) = some r := H
        have A15 := Aside0.mk A150
        clear A150
        by_cases c16 : 16 ≤ 35184372088832
        · rw [if_pos c16] at H
          have c16b0 := eq_true c16
          have c16b1 : decide (16 ≤ 35184372088832) = true := decide_eq_true c16
          clear c16
          obtain ⟨y183, hy183⟩ : ∃ y_ : List Int, y_ = (List.replicate 16 0) := ⟨_, rfl⟩
          replace H : (if 0 ≤ (Int.tmod (wrap64 ((Int.tmod a2 16) + 16)) 16) then (if (Int.tmod (wrap64 ((Int.tmod a2 16) + 16)) 16) < (y183.length : Int) then ((vclock_Leq.f (y183.set ((Int.tmod (wrap64 ((Int.tmod a2 16) + 16)) 16) : Int).toNat (wrap64 (Int.tmod (IntKind.u64.wrap (a1)) 1099511627776))) t172).bind fun bt187 => (if t182 = 0 then (if bt187.2 = 0 then (plaitlaw02_EpochKnows.j1 kj6 t172 (Int.tmod (wrap64 ((Int.tmod a2 16) + 16)) 16) (t181 != bt187.1)) else (plaitlaw02_EpochKnows.j1 kj6 t172 (Int.tmod (wrap64 ((Int.tmod a2 16) + 16)) 16) true)) else (if t182 = 1 then (some (bt187.2 == 1)) else (some false)))) else (none)) else (none)) = some r := by first | (rw [hy183]; with_reducible exact H) | (have H2_ := (Option.bind_some _ _).symm.trans H; rw [hy183]; with_reducible exact H2_) | (have H2_ := (Option.bind_some _ _).symm.trans H; with_reducible exact H2_) | with_reducible exact H | (rw [hy183]; exact H) | exact H
          have Ny183 := Aside0.mk hy183
          clear hy183
          obtain ⟨ji17, hji17⟩ : ∃ j_ : Int, (Int.tmod (wrap64 ((Int.tmod a2 16) + 16)) 16) = j_ := ⟨_, rfl⟩
          replace H : (if 0 ≤ (ji17) then (if (ji17) < (y183.length : Int) then ((vclock_Leq.f (y183.set ((ji17) : Int).toNat (wrap64 (Int.tmod (IntKind.u64.wrap (a1)) 1099511627776))) t172).bind fun bt187 => (if t182 = 0 then (if bt187.2 = 0 then (plaitlaw02_EpochKnows.j1 kj6 t172 (ji17) (t181 != bt187.1)) else (plaitlaw02_EpochKnows.j1 kj6 t172 (ji17) true)) else (if t182 = 1 then (some (bt187.2 == 1)) else (some false)))) else (none)) else (none)) = some r := by first | (rw [hji17] at H; exact H) | (simp only [hji17] at H ⊢; exact H)
          (try rw [hji17] at A15)
          by_cases c18 : 0 ≤ (ji17)
          · rw [if_pos c18] at H
            have c18b0 : decide (0 ≤ (ji17)) = true := decide_eq_true c18
            clear c18
            by_cases c19 : (ji17) < (y183.length : Int)
            · rw [if_pos c19] at H
              have c19b0 : decide ((ji17) < (y183.length : Int)) = true := decide_eq_true c19
              clear c19
              obtain ⟨y186, hy186⟩ : ∃ y_ : List Int, y_ = (y183.set ((ji17) : Int).toNat (wrap64 (Int.tmod (IntKind.u64.wrap (a1)) 1099511627776))) := ⟨_, rfl⟩
              replace H : ((vclock_Leq.f y186 t172).bind fun bt187 => (if t182 = 0 then (if bt187.2 = 0 then (plaitlaw02_EpochKnows.j1 kj6 t172 (ji17) (t181 != bt187.1)) else (plaitlaw02_EpochKnows.j1 kj6 t172 (ji17) true)) else (if t182 = 1 then (some (bt187.2 == 1)) else (some false)))) = some r := by first | (rw [hy186]; with_reducible exact H) | (have H2_ := (Option.bind_some _ _).symm.trans H; rw [hy186]; with_reducible exact H2_) | (have H2_ := (Option.bind_some _ _).symm.trans H; with_reducible exact H2_) | with_reducible exact H | (rw [hy186]; exact H) | exact H
              have Ny186 := Aside0.mk hy186
              clear hy186
              replace H := Option.bind_eq_some_iff.mp H
              obtain ⟨⟨t187, t188⟩, A210, H⟩ := H
              replace H : (if t182 = 0 then (if t188 = 0 then (plaitlaw02_EpochKnows.j1 kj6 t172 (ji17) (t181 != t187)) else (plaitlaw02_EpochKnows.j1 kj6 t172 (ji17) true)) else (if t182 = 1 then (some (t188 == 1)) else (some false))) = some r := H
              have A21 := Aside0.mk A210
              clear A210
              by_cases c22 : t182 = 0
              · rw [if_pos c22] at H
                have c22b0 : (t182 == 0) = true := beq_iff_eq.mpr c22
                have c22b1 : (t182 != 0) = false := bne_eq_false_iff_eq.mpr c22
                clear c22
                have HC23 := Aside0.mk H
                clear H
                obtain ⟨Ao24, co24, eo24⟩ := Kd.V_slice HO_0.out
                subst eo24
                go_upto_region 13 with (first | ((with_reducible refine gate_callee (f := 46) rfl ?_); refine goesL_ (some 72) rfl rfl Try.func46 (by kernel_rfl) rfl #[.int .i64 t175, .slice Ao24 t172.length co24] rfl (by (try simp only [List.map_toArray, List.map_cons, List.map_nil]); first | done | rfl | (simp only [List.length_drop, List.length_take]; rfl)) ?_; (with_reducible refine (epoch_Known.calls t175 _ _ t172 t181 t182 _ ?side1 ?side2 A15.out).mono ?_); (case side1 => repeat (first | exact (Kd.V_reads' HO_0.out).2.2 | (with_reducible refine Kd.C_alloc ?_ _) | (with_reducible refine Kd.C_drewN ?_ _) | (with_reducible refine Kd.C_drew ?_))); (case side2 => exact (Kd.V_reads' HO_0.out).2.1); rintro e w25 ⟨rfl, hb⟩; refine ⟨_, rfl, ?_⟩; have n0_ := Aside0.mk (Kd.V_below (by (with_reducible repeat (first | apply Kd.V_alloc | apply Kd.V_drewN | apply Kd.V_drew)); exact HO_0.out) hb); have n1_ := Aside0.mk (below_step (by repeat (first | (with_reducible first | exact HB.out | apply below_alloc | apply pw_below_drewN | apply below_drew1) | exact HB.out)) hb); clear HO_0; clear HB; have HO_0 := n0_; have HB := n1_; clear n0_ n1_; (try clear hb); (try clear hb2); (try clear hk); (try clear hi)) | ((with_reducible refine gate_dst (N := 75) rfl ?_); refine Kd.R_make (Kd.int .i64) _ 3 rfl (N := 75) rfl 28 _ _ rfl 16 rfl rfl Try.underlying28 (.int .i64 0) 8 info3 rfl (by decide) (by omega) 0 (ok := fun _ => True) (okp := fun _ => True) rfl (fun _ hk => hk) trivial (by omega) (by omega) (Below.refl _ _) (Nat.le_refl _) ?_; intro v184 w26 ho27 hb hg_ hnew_; clear hg_ hnew_; (first | rw [← Ny183.out] at ho27 | (simp only [Int.reduceToNat] at ho27; rw [← Ny183.out] at ho27)); have n0_ := Aside0.mk (Kd.V_elder' (by (with_reducible repeat (first | apply Kd.V_alloc | apply Kd.V_drewN | apply Kd.V_drew)); exact HO_0.out) (Kd.R_base ho27) hb); have n1_ := Aside0.mk (Kd.R_lower ho27 (below_size (by repeat (first | (with_reducible first | exact HB.out | apply below_alloc | apply pw_below_drewN | apply below_drew1) | exact HB.out)))); have n2_ := Aside0.mk (below_step (by repeat (first | (with_reducible first | exact HB.out | apply below_alloc | apply pw_below_drewN | apply below_drew1) | exact HB.out)) hb); clear HO_0; clear HB; have HO_0 := n0_; have HO185 := n1_; have HB := n2_; clear n0_ n1_ n2_; clear hb ho27; have p20 : 0 ≤ ((ji17) : Int) := of_decide_eq_true (by first | (with_reducible assumption) | assumption); have q20 : ((ji17) : Int) < ((y183.length : Int) : Int) := of_decide_eq_true (by first | (with_reducible assumption) | assumption); obtain ⟨go20, co20, eo20, gb20, gl20, cl20, HG20⟩ := Kd.R_form HO185.out (by omega); (first | cases eo20 | (injection eo20 with ea_ en_ ec_; (first | subst ea_ | (injection ea_ with ea_; subst ea_)); subst ec_; clear en_)); have GB20 := Aside0.mk gb20; have GG20 := Aside0.mk HG20; clear gb20 gl20 HG20; obtain ⟨hx20_0, hf20_0⟩ := Kd.R_celln 0 HO185.out ((ji17) : Int) p20 q20; replace p20 := eq_true p20; replace q20 := eq_true q20; obtain ⟨hy28_, hz28_⟩ := Kd.R_celln 0 HO185.out ((ji17) : Int) (of_decide_eq_true (by first | (with_reducible assumption) | assumption)) (of_decide_eq_true (by first | (with_reducible assumption) | assumption)); have HP28 := Kd.R_putg HO185.out ((ji17) : Int) (wrap64 (Int.tmod (IntKind.u64.wrap (a1)) 1099511627776))) | ((with_reducible refine gate_store (t := 3) (p := 79) rfl ?_); refine store_event (t := 3) (p := 79) (v := ?vo_w29) (w1 := (w26.setCell ⟨go20, ((ji17) : Int).toNat, none⟩ (.int .i64 (wrap64 (Int.tmod (IntKind.u64.wrap (a1)) 1099511627776))))) ?hg ?ho ?hn ?hr ?_; (case ho => rfl); (case hg => rfl); (case hn => rfl); (case hr => first | (go_simp; done) | (go_simp; rfl)); intro w29 hw; have hg : w26.grownBy w29 (some go20) := (by rw [hw]; exact HP28.2); have hp_ : Kd.R (Kd.int .i64) 3 w29 w.heap.size (fun _ => True) (.slice (some ⟨go20, 0, none⟩) y183.length co20) y186 := (by rw [hw, Ny186.out]; exact HP28.1); clear HP28; have n0_ := Aside0.mk (Kd.V_afterv (v := (.slice (some ⟨go20, 0, none⟩) y183.length co20)) (v1 := (.slice (some ⟨go20, 0, none⟩) y183.length co20)) (ok := (fun _ => True)) (by (with_reducible repeat (first | apply Kd.V_alloc | apply Kd.V_drewN | apply Kd.V_drew)); exact HO_0.out) hg (.inl rfl)); have n1_ := Aside0.mk (hp_); have n2_ := Aside0.mk ((by rw [hw]; exact below_set (HB.out) GB20.out : Below w.heap.size w w29)); clear HO_0; clear HO185; clear HB; have HO_0 := n0_; have HO185 := n1_; have HB := n2_; clear n0_ n1_ n2_; clear hg hw hp_) | ((with_reducible refine gate_callee (f := 37) rfl ?_); refine goesL_ (some 83) rfl rfl Try.func37 (by kernel_rfl) rfl #[.slice (some ⟨go20, 0, none⟩) y186.length co20, .slice Ao24 t172.length co24] rfl (by (try simp only [List.map_toArray, List.map_cons, List.map_nil]); first | done | (rw [show y186.length = y183.length from (Kd.R_reads' HO185.out).1.symm] <;> rfl) | rfl | (simp only [List.length_drop, List.length_take]; rfl)) ?_; (with_reducible refine (vclock_Leq.calls _ _ y186 _ _ t172 t187 t188 _ ?side1 ?side2 ?side3 ?side4 A21.out).mono ?_); (case side1 => repeat (first | exact (Kd.R_reads' HO185.out).2.2 | (with_reducible refine Kd.C_alloc ?_ _) | (with_reducible refine Kd.C_drewN ?_ _) | (with_reducible refine Kd.C_drew ?_))); (case side2 => rw [show y186.length = y183.length from (Kd.R_reads' HO185.out).1.symm]; exact (Kd.R_reads' HO185.out).2.1); (case side3 => repeat (first | exact (Kd.V_reads' HO_0.out).2.2 | (with_reducible refine Kd.C_alloc ?_ _) | (with_reducible refine Kd.C_drewN ?_ _) | (with_reducible refine Kd.C_drew ?_))); (case side4 => exact (Kd.V_reads' HO_0.out).2.1); rintro e w30 ⟨rfl, hb⟩; refine ⟨_, rfl, ?_⟩; have n0_ := Aside0.mk (Kd.V_below (by (with_reducible repeat (first | apply Kd.V_alloc | apply Kd.V_drewN | apply Kd.V_drew)); exact HO_0.out) hb); have n1_ := Aside0.mk (Kd.R_below (by (with_reducible repeat (first | apply Kd.R_alloc | apply Kd.R_drewN | apply Kd.R_drew)); exact HO185.out) hb); have n2_ := Aside0.mk (below_step (by repeat (first | (with_reducible first | exact HB.out | apply below_alloc | apply pw_below_drewN | apply below_drew1) | exact HB.out)) hb); clear HO_0; clear HO185; clear HB; have HO_0 := n0_; have HO185 := n1_; have HB := n2_; clear n0_ n1_ n2_; (try clear hb); (try clear hb2); (try clear hk); (try clear hi)))
                (try simp only [Act.put, List.setIfInBounds_toArray, List.set_cons_zero, List.set_cons_succ])
                go_cut [100] (fun v100 wc => ∃ (kq : Nat) (x100_22 : Bool), v100 = .bool x100_22 ∧ Aside0 (plaitlaw02_EpochKnows.j1 kq t172 (ji17) x100_22 = some r) ∧ Aside0 (kq ≤ kj6) ∧ Aside0 (Kd.V (Kd.int .i64) 3 wc w.heap.size (fun _ => True) (.slice Ao24 t172.length co24) t172) ∧ Aside0 (Below w.heap.size w wc))
                case first =>
                  have H := HC23.out
                  clear HC23
                  by_cases c31 : t188 = 0
                  · rw [if_pos c31] at H
                    have c31b0 : (t188 == 0) = true := beq_iff_eq.mpr c31
                    have c31b1 : (t188 != 0) = false := bne_eq_false_iff_eq.mpr c31
                    clear c31
                    (first | rw [c31b0] | (simp only [i64_w, i32_w]; rw [c31b0]) | skip)
                    have H' := Aside0.mk H
                    clear H
                    go_wp2
                    go_meet
                    case rel => exact ⟨_, ((t181 != t187)), (by first | rfl | (simp; done) | (simp [*]; done)), H', ⟨by have := HJ6.out; first | omega | exact Nat.le_refl _⟩, ⟨by (with_reducible repeat (first | apply Kd.V_alloc | apply Kd.V_drewN | apply Kd.V_drew)); exact Kd.V_mono HO_0.out (fun _ hk => trivial)⟩, ⟨by repeat (first | (with_reducible first | exact HB.out | apply below_alloc | apply pw_below_drewN | apply below_drew1) | exact HB.out)⟩⟩
                  · rw [if_neg c31] at H
                    have c31b0 : (t188 == 0) = false := beq_eq_false_iff_ne.mpr c31
                    have c31b1 : (t188 != 0) = true := bne_iff_ne.mpr c31
                    (first | rw [c31b0] | (simp only [i64_w, i32_w]; rw [c31b0]) | skip)
                    have H' := Aside0.mk H
                    clear H
                    go_wp2
                    go_meet
                    case rel => exact ⟨_, (true), (by first | rfl | (simp; done) | (simp [*]; done)), H', ⟨by have := HJ6.out; first | omega | exact Nat.le_refl _⟩, ⟨by (with_reducible repeat (first | apply Kd.V_alloc | apply Kd.V_drewN | apply Kd.V_drew)); exact Kd.V_mono HO_0.out (fun _ hk => trivial)⟩, ⟨by repeat (first | (with_reducible first | exact HB.out | apply below_alloc | apply pw_below_drewN | apply below_drew1) | exact HB.out)⟩⟩
                case rest =>
                  clear HC23
                  try clear c1
                  try clear c2
                  try clear p2
                  try clear q2
                  try clear hx2
                  try clear c3
                  try clear c4
                  try clear p6
                  try clear c9
                  try clear c9b0
                  try clear c9b1
                  try clear c10
                  try clear c10b0
                  try clear c10b1
                  try clear c11
                  try clear c11b0
                  try clear c11b1
                  try clear c12
                  try clear c12b0
                  try clear c12b1
                  try clear c14
                  try clear c15
                  try clear c16
                  try clear c16b0
                  try clear c16b1
                  try clear c18
                  try clear c18b0
                  try clear c19
                  try clear c19b0
                  try clear p20
                  try clear q20
                  try clear hx20
                  try clear hf20
                  try clear c21
                  try clear c22
                  try clear c22b0
                  try clear c22b1
                  try clear c31
                  try clear c31b0
                  try clear c31b1
                  try clear hx20_0
                  try clear p2
                  try clear p20
                  try clear p6
                  try clear q20
                  obtain ⟨kq, x100_22, rfl, HA, HJ22, HO_0, HB⟩ := hcut
                  cases kq with
                  | zero => exact absurd HA.out (by simp [plaitlaw02_EpochKnows.j1])
                  | succ kj22 =>
                    have H := HA.out
                    clear HA
                    simp only [plaitlaw02_EpochKnows.j1] at H
                    by_cases c32 : x100_22 = true
                    · subst c32
                      have H1 : (some false) = some r := by rw [if_pos rfl] at H; exact H
                      clear H
                      have H := H1
                      clear H1
                      exact absurd (Option.some.inj H) (by rw [hr_.out]; decide)
                    · replace c32 := Bool.eq_false_iff.mpr c32
                      subst c32
                      have H1 : ((vclock_At.f t172 (ji17)).bind fun bt189 => ((vclock_Tick.f t172 (ji17)).bind fun bt191 => (if bt189.2 = 0 then (plaitlaw02_EpochKnows.j2 kj22 t172 (ji17) bt189.1 bt191.1 bt191.2 (bt191.2 != 0)) else (plaitlaw02_EpochKnows.j2 kj22 t172 (ji17) bt189.1 bt191.1 bt191.2 true)))) = some r := by rw [if_neg (show ¬ (false = true) by decide)] at H; exact H
                      clear H
                      have H := H1
                      clear H1
                      replace H := Option.bind_eq_some_iff.mp H
                      obtain ⟨⟨t189, t190⟩, A330, H⟩ := H
                      replace H : ((vclock_Tick.f t172 (ji17)).bind fun bt191 => (if t190 = 0 then (plaitlaw02_EpochKnows.j2 kj22 t172 (ji17) t189 bt191.1 bt191.2 (bt191.2 != 0)) else (plaitlaw02_EpochKnows.j2 kj22 t172 (ji17) t189 bt191.1 bt191.2 true))) = some r := H
                      have A33 := Aside0.mk A330
                      clear A330
                      replace H := Option.bind_eq_some_iff.mp H
                      obtain ⟨⟨t191, t192⟩, A340, H⟩ := H
                      replace H : (if t190 = 0 then (plaitlaw02_EpochKnows.j2 kj22 t172 (ji17) t189 t191 t192 (t192 != 0)) else (plaitlaw02_EpochKnows.j2 kj22 t172 (ji17) t189 t191 t192 true)) = some r := H
                      have A34 := Aside0.mk A340
                      clear A340
                      have HC35 := Aside0.mk H
                      clear H
                      go_upto_region 17 with (first | ((with_reducible refine gate_callee (f := 52) rfl ?_); refine goesL_ (some 104) rfl rfl Try.func52 (by kernel_rfl) rfl #[.slice Ao24 t172.length co24, .int .i64 (ji17)] rfl (by (try simp only [List.map_toArray, List.map_cons, List.map_nil]); first | done | (simp only [hji17]; rfl) | rfl | (simp only [List.length_drop, List.length_take]; rfl)) ?_; (with_reducible refine (vclock_At.calls _ _ t172 (ji17) t189 t190 _ ?side1 ?side2 A33.out).mono ?_); (case side1 => repeat (first | exact (Kd.V_reads' HO_0.out).2.2 | (with_reducible refine Kd.C_alloc ?_ _) | (with_reducible refine Kd.C_drewN ?_ _) | (with_reducible refine Kd.C_drew ?_))); (case side2 => exact (Kd.V_reads' HO_0.out).2.1); rintro e w36 ⟨rfl, hb⟩; refine ⟨_, rfl, ?_⟩; have n0_ := Aside0.mk (Kd.V_below (by (with_reducible repeat (first | apply Kd.V_alloc | apply Kd.V_drewN | apply Kd.V_drew)); exact HO_0.out) hb); have n1_ := Aside0.mk (below_step (by repeat (first | (with_reducible first | exact HB.out | apply below_alloc | apply pw_below_drewN | apply below_drew1) | exact HB.out)) hb); clear HO_0; clear HB; have HO_0 := n0_; have HB := n1_; clear n0_ n1_; (try clear hb); (try clear hb2); (try clear hk); (try clear hi)) | ((with_reducible refine gate_callee (f := 53) rfl ?_); refine goesL_ (some 110) rfl rfl Try.func53 (by kernel_rfl) rfl #[.slice Ao24 t172.length co24, .int .i64 (ji17)] rfl (by (try simp only [List.map_toArray, List.map_cons, List.map_nil]); first | done | (simp only [hji17]; rfl) | rfl | (simp only [List.length_drop, List.length_take]; rfl)) ?_; (with_reducible refine (vclock_Tick.calls _ _ t172 (ji17) t191 t192 _ ?side1 ?side2 A34.out).mono ?_); (case side1 => repeat (first | exact (Kd.V_reads' HO_0.out).2.2 | (with_reducible refine Kd.C_alloc ?_ _) | (with_reducible refine Kd.C_drewN ?_ _) | (with_reducible refine Kd.C_drew ?_))); (case side2 => exact (Kd.V_reads' HO_0.out).2.1); rintro e w37 ⟨v193, rfl, ho0, hb⟩; refine ⟨_, rfl, ?_⟩; have n0_ := Aside0.mk (Kd.V_elder' (by (with_reducible repeat (first | apply Kd.V_alloc | apply Kd.V_drewN | apply Kd.V_drew)); exact HO_0.out) (Kd.R_base ho0) hb); have n1_ := Aside0.mk (Kd.R_lower ho0 (below_size (by repeat (first | (with_reducible first | exact HB.out | apply below_alloc | apply pw_below_drewN | apply below_drew1) | exact HB.out)))); have n2_ := Aside0.mk (below_step (by repeat (first | (with_reducible first | exact HB.out | apply below_alloc | apply pw_below_drewN | apply below_drew1) | exact HB.out)) hb); clear HO_0; clear HB; have HO_0 := n0_; have HO194 := n1_; have HB := n2_; clear n0_ n1_ n2_; (try clear hb); (try clear hb2); (try clear hk); (try clear hi); (try clear ho0)))
                      (try simp only [Act.put, List.setIfInBounds_toArray, List.set_cons_zero, List.set_cons_succ])
                      go_cut [118] (fun v118 wc => ∃ (kq : Nat) (x118_34 : Bool), v118 = .bool x118_34 ∧ Aside0 (plaitlaw02_EpochKnows.j2 kq t172 (ji17) t189 t191 t192 x118_34 = some r) ∧ Aside0 (kq ≤ kj22) ∧ Aside0 (Kd.V (Kd.int .i64) 3 wc w.heap.size (fun k_ => some k_ ≠ (v193 : Value).ownBlock) (.slice Ao24 t172.length co24) t172) ∧ Aside0 (Kd.R (Kd.int .i64) 3 wc w.heap.size (fun _ => True) v193 t191) ∧ Aside0 (Below w.heap.size w wc))
                      case first =>
                        have H := HC35.out
                        clear HC35
                        by_cases c38 : t190 = 0
                        · rw [if_pos c38] at H
                          have c38b0 : (t190 == 0) = true := beq_iff_eq.mpr c38
                          have c38b1 : (t190 != 0) = false := bne_eq_false_iff_eq.mpr c38
                          clear c38
                          (first | rw [c38b0] | (simp only [i64_w, i32_w]; rw [c38b0]) | skip)
                          have H' := Aside0.mk H
                          clear H
                          go_wp2
                          go_meet
                          case rel => exact ⟨_, ((t192 != 0)), (by first | rfl | (simp; done) | (simp [*]; done)), H', ⟨by have := HJ6.out; have := HJ22.out; first | omega | exact Nat.le_refl _⟩, ⟨by (with_reducible repeat (first | apply Kd.V_alloc | apply Kd.V_drewN | apply Kd.V_drew)); exact Kd.V_mono HO_0.out (fun _ hk => hk.2)⟩, ⟨by (with_reducible repeat (first | apply Kd.R_alloc | apply Kd.R_drewN | apply Kd.R_drew)); exact HO194.out⟩, ⟨by repeat (first | (with_reducible first | exact HB.out | apply below_alloc | apply pw_below_drewN | apply below_drew1) | exact HB.out)⟩⟩
                        · rw [if_neg c38] at H
                          have c38b0 : (t190 == 0) = false := beq_eq_false_iff_ne.mpr c38
                          have c38b1 : (t190 != 0) = true := bne_iff_ne.mpr c38
                          (first | rw [c38b0] | (simp only [i64_w, i32_w]; rw [c38b0]) | skip)
                          have H' := Aside0.mk H
                          clear H
                          go_wp2
                          go_meet
                          case rel => exact ⟨_, (true), (by first | rfl | (simp; done) | (simp [*]; done)), H', ⟨by have := HJ6.out; have := HJ22.out; first | omega | exact Nat.le_refl _⟩, ⟨by (with_reducible repeat (first | apply Kd.V_alloc | apply Kd.V_drewN | apply Kd.V_drew)); exact Kd.V_mono HO_0.out (fun _ hk => hk.2)⟩, ⟨by (with_reducible repeat (first | apply Kd.R_alloc | apply Kd.R_drewN | apply Kd.R_drew)); exact HO194.out⟩, ⟨by repeat (first | (with_reducible first | exact HB.out | apply below_alloc | apply pw_below_drewN | apply below_drew1) | exact HB.out)⟩⟩
                      case rest =>
                        clear HC35
                        try clear c1
                        try clear c2
                        try clear p2
                        try clear q2
                        try clear hx2
                        try clear c3
                        try clear c4
                        try clear c5
                        try clear p6
                        try clear c9
                        try clear c9b0
                        try clear c9b1
                        try clear c10
                        try clear c10b0
                        try clear c10b1
                        try clear c11
                        try clear c11b0
                        try clear c11b1
                        try clear c12
                        try clear c12b0
                        try clear c12b1
                        try clear c14
                        try clear c15
                        try clear c16
                        try clear c16b0
                        try clear c16b1
                        try clear c18
                        try clear c18b0
                        try clear c19
                        try clear c19b0
                        try clear p20
                        try clear q20
                        try clear hx20
                        try clear hf20
                        try clear c21
                        try clear c22
                        try clear c22b0
                        try clear c22b1
                        try clear c31
                        try clear c31b0
                        try clear c31b1
                        try clear c32
                        try clear c37
                        try clear c38
                        try clear c38b0
                        try clear c38b1
                        try clear hx20_0
                        try clear p2
                        try clear p20
                        try clear p6
                        try clear q2
                        try clear q20
                        obtain ⟨kq, x118_34, rfl, HA, HJ34, HO_0, HO_19, HB⟩ := hcut
                        cases kq with
                        | zero => exact absurd HA.out (by simp [plaitlaw02_EpochKnows.j2])
                        | succ kj34 =>
                          have H := HA.out
                          clear HA
                          simp only [plaitlaw02_EpochKnows.j2] at H
                          by_cases c39 : x118_34 = true
                          · subst c39
                            have H1 : (some (t192 == 8)) = some r := by rw [if_pos rfl] at H; exact H
                            clear H
                            have H := H1
                            clear H1
                            obtain rfl := Option.some.inj H
                            go_wp2
                            go_ret
                            exact ⟨by first | rfl | (simp [errW_none, errW_some] <;> rfl) | (simp only [← hji17]; first | rfl | (simp [errW_none, errW_some] <;> rfl)) | (simp [*, errW_none, errW_some] <;> rfl), by repeat (first | (with_reducible first | exact HB.out | apply below_alloc | apply pw_below_drewN | apply below_drew1) | exact HB.out)⟩
                          · replace c39 := Bool.eq_false_iff.mpr c39
                            subst c39
                            have H1 : ((epoch_Pack.f kj34 (wrap64 (t189 + 1)) (ji17)).bind fun bt195 => ((epoch_Known.f bt195.1 t191).bind fun bt197 => ((epoch_Known.f bt195.1 t172).bind fun bt199 => (if bt195.2 = 0 then (if bt197.2 = 0 then (if bt199.2 = 0 then (if bt197.1 = true then (some (!bt199.1)) else (some false)) else (some false)) else (some false)) else (some false))))) = some r := by rw [if_neg (show ¬ (false = true) by decide)] at H; exact H
                            clear H
                            have H := H1
                            clear H1
                            replace H := Option.bind_eq_some_iff.mp H
                            obtain ⟨⟨t195, t196⟩, A400, H⟩ := H
                            replace H : ((epoch_Known.f t195 t191).bind fun bt197 => ((epoch_Known.f t195 t172).bind fun bt199 => (if t196 = 0 then (if bt197.2 = 0 then (if bt199.2 = 0 then (if bt197.1 = true then (some (!bt199.1)) else (some false)) else (some false)) else (some false)) else (some false)))) = some r := H
                            have A40 := Aside0.mk A400
                            clear A400
                            replace H := Option.bind_eq_some_iff.mp H
                            obtain ⟨⟨t197, t198⟩, A410, H⟩ := H
                            replace H : ((epoch_Known.f t195 t172).bind fun bt199 => (if t196 = 0 then (if t198 = 0 then (if bt199.2 = 0 then (if t197 = true then (some (!bt199.1)) else (some false)) else (some false)) else (some false)) else (some false))) = some r := H
                            have A41 := Aside0.mk A410
                            clear A410
                            replace H := Option.bind_eq_some_iff.mp H
                            obtain ⟨⟨t199, t200⟩, A420, H⟩ := H
                            replace H : (if t196 = 0 then (if t198 = 0 then (if t200 = 0 then (if t197 = true then (some (!t199)) else (some false)) else (some false)) else (some false)) else (some false)) = some r := H
                            have A42 := Aside0.mk A420
                            clear A420
                            by_cases c43 : t196 = 0
                            · rw [if_pos c43] at H
                              have c43b0 : (t196 == 0) = true := beq_iff_eq.mpr c43
                              have c43b1 : (t196 != 0) = false := bne_eq_false_iff_eq.mpr c43
                              clear c43
                              by_cases c44 : t198 = 0
                              · rw [if_pos c44] at H
                                have c44b0 : (t198 == 0) = true := beq_iff_eq.mpr c44
                                have c44b1 : (t198 != 0) = false := bne_eq_false_iff_eq.mpr c44
                                clear c44
                                by_cases c45 : t200 = 0
                                · rw [if_pos c45] at H
                                  have c45b0 : (t200 == 0) = true := beq_iff_eq.mpr c45
                                  have c45b1 : (t200 != 0) = false := bne_eq_false_iff_eq.mpr c45
                                  clear c45
                                  by_cases c46 : t197 = true
                                  · subst c46
                                    have H1 : (some (!t199)) = some r := by rw [if_pos rfl] at H; exact H
                                    clear H
                                    have H := H1
                                    clear H1
                                    obtain rfl := Option.some.inj H
                                    go_wp2_with (first | ((with_reducible refine gate_callee (f := 21) rfl ?_); refine goesL_ (some 125) rfl rfl Try.func21 (by kernel_rfl) rfl #[.int .i64 (wrap64 (t189 + 1)), .int .i64 (ji17)] rfl (by (try simp only [List.map_toArray, List.map_cons, List.map_nil]); first | done | (simp only [hji17]; rfl) | rfl | (simp only [List.length_drop, List.length_take]; rfl)) ?_; (with_reducible refine (epoch_Pack.calls kj34 (wrap64 (t189 + 1)) (ji17) t195 t196 _ A40.out).mono ?_); rintro e w' ⟨rfl, ⟨nd, rfl⟩⟩; refine ⟨_, rfl, ?_⟩; obtain ⟨Ao47, co47, eo47⟩ := Kd.R_slice HO_19.out; subst eo47) | ((with_reducible refine gate_callee (f := 46) rfl ?_); refine goesL_ (some 131) rfl rfl Try.func46 (by kernel_rfl) rfl #[.int .i64 t195, .slice Ao47 t191.length co47] rfl (by (try simp only [List.map_toArray, List.map_cons, List.map_nil]); first | done | rfl | (simp only [List.length_drop, List.length_take]; rfl)) ?_; (with_reducible refine (epoch_Known.calls t195 _ _ t191 true t198 _ ?side1 ?side2 A41.out).mono ?_); (case side1 => repeat (first | exact (Kd.R_reads' HO_19.out).2.2 | (with_reducible refine Kd.C_alloc ?_ _) | (with_reducible refine Kd.C_drewN ?_ _) | (with_reducible refine Kd.C_drew ?_))); (case side2 => exact (Kd.R_reads' HO_19.out).2.1); rintro e w48 ⟨rfl, hb⟩; refine ⟨_, rfl, ?_⟩; have n0_ := Aside0.mk (Kd.V_below (by (with_reducible repeat (first | apply Kd.V_alloc | apply Kd.V_drewN | apply Kd.V_drew)); exact HO_0.out) hb); have n1_ := Aside0.mk (Kd.R_below (by (with_reducible repeat (first | apply Kd.R_alloc | apply Kd.R_drewN | apply Kd.R_drew)); exact HO_19.out) hb); have n2_ := Aside0.mk (below_step (by repeat (first | (with_reducible first | exact HB.out | apply below_alloc | apply pw_below_drewN | apply below_drew1) | exact HB.out)) hb); clear HO_0; clear HO_19; clear HB; have HO_0 := n0_; have HO_19 := n1_; have HB := n2_; clear n0_ n1_ n2_; (try clear hb); (try clear hb2); (try clear hk); (try clear hi)) | ((with_reducible refine gate_callee (f := 46) rfl ?_); refine goesL_ (some 137) rfl rfl Try.func46 (by kernel_rfl) rfl #[.int .i64 t195, .slice Ao24 t172.length co24] rfl (by (try simp only [List.map_toArray, List.map_cons, List.map_nil]); first | done | rfl | (simp only [List.length_drop, List.length_take]; rfl)) ?_; (with_reducible refine (epoch_Known.calls t195 _ _ t172 t199 t200 _ ?side1 ?side2 A42.out).mono ?_); (case side1 => repeat (first | exact (Kd.V_reads' HO_0.out).2.2 | (with_reducible refine Kd.C_alloc ?_ _) | (with_reducible refine Kd.C_drewN ?_ _) | (with_reducible refine Kd.C_drew ?_))); (case side2 => exact (Kd.V_reads' HO_0.out).2.1); rintro e w49 ⟨rfl, hb⟩; refine ⟨_, rfl, ?_⟩; have n0_ := Aside0.mk (Kd.V_below (by (with_reducible repeat (first | apply Kd.V_alloc | apply Kd.V_drewN | apply Kd.V_drew)); exact HO_0.out) hb); have n1_ := Aside0.mk (Kd.R_below (by (with_reducible repeat (first | apply Kd.R_alloc | apply Kd.R_drewN | apply Kd.R_drew)); exact HO_19.out) hb); have n2_ := Aside0.mk (below_step (by repeat (first | (with_reducible first | exact HB.out | apply below_alloc | apply pw_below_drewN | apply below_drew1) | exact HB.out)) hb); clear HO_0; clear HO_19; clear HB; have HO_0 := n0_; have HO_19 := n1_; have HB := n2_; clear n0_ n1_ n2_; (try clear hb); (try clear hb2); (try clear hk); (try clear hi)))
                                    go_ret
                                    exact ⟨by first | rfl | (simp [errW_none, errW_some] <;> rfl) | (simp only [← hji17]; first | rfl | (simp [errW_none, errW_some] <;> rfl)) | (simp [*, errW_none, errW_some] <;> rfl), by repeat (first | (with_reducible first | exact HB.out | apply below_alloc | apply pw_below_drewN | apply below_drew1) | exact HB.out)⟩
                                  · replace c46 := Bool.eq_false_iff.mpr c46
                                    subst c46
                                    have H1 : (some false) = some r := by rw [if_neg (show ¬ (false = true) by decide)] at H; exact H
                                    clear H
                                    have H := H1
                                    clear H1
                                    exact absurd (Option.some.inj H) (by rw [hr_.out]; decide)
                                · rw [if_neg c45] at H
                                  have c45b0 : (t200 == 0) = false := beq_eq_false_iff_ne.mpr c45
                                  have c45b1 : (t200 != 0) = true := bne_iff_ne.mpr c45
                                  exact absurd (Option.some.inj H) (by rw [hr_.out]; decide)
                              · rw [if_neg c44] at H
                                have c44b0 : (t198 == 0) = false := beq_eq_false_iff_ne.mpr c44
                                have c44b1 : (t198 != 0) = true := bne_iff_ne.mpr c44
                                exact absurd (Option.some.inj H) (by rw [hr_.out]; decide)
                            · rw [if_neg c43] at H
                              have c43b0 : (t196 == 0) = false := beq_eq_false_iff_ne.mpr c43
                              have c43b1 : (t196 != 0) = true := bne_iff_ne.mpr c43
                              exact absurd (Option.some.inj H) (by rw [hr_.out]; decide)
              · rw [if_neg c22] at H
                have c22b0 : (t182 == 0) = false := beq_eq_false_iff_ne.mpr c22
                have c22b1 : (t182 != 0) = true := bne_iff_ne.mpr c22
                by_cases c50 : t182 = 1
                · rw [if_pos c50] at H
                  have c50b0 : (t182 == 1) = true := beq_iff_eq.mpr c50
                  have c50b1 : (t182 != 1) = false := bne_eq_false_iff_eq.mpr c50
                  clear c50
                  obtain rfl := Option.some.inj H
                  obtain ⟨Ao51, co51, eo51⟩ := Kd.V_slice HO_0.out
                  subst eo51
                  go_wp2_with (first | ((with_reducible refine gate_callee (f := 46) rfl ?_); refine goesL_ (some 72) rfl rfl Try.func46 (by kernel_rfl) rfl #[.int .i64 t175, .slice Ao51 t172.length co51] rfl (by (try simp only [List.map_toArray, List.map_cons, List.map_nil]); first | done | rfl | (simp only [List.length_drop, List.length_take]; rfl)) ?_; (with_reducible refine (epoch_Known.calls t175 _ _ t172 t181 t182 _ ?side1 ?side2 A15.out).mono ?_); (case side1 => repeat (first | exact (Kd.V_reads' HO_0.out).2.2 | (with_reducible refine Kd.C_alloc ?_ _) | (with_reducible refine Kd.C_drewN ?_ _) | (with_reducible refine Kd.C_drew ?_))); (case side2 => exact (Kd.V_reads' HO_0.out).2.1); rintro e w52 ⟨rfl, hb⟩; refine ⟨_, rfl, ?_⟩; have n0_ := Aside0.mk (Kd.V_below (by (with_reducible repeat (first | apply Kd.V_alloc | apply Kd.V_drewN | apply Kd.V_drew)); exact HO_0.out) hb); have n1_ := Aside0.mk (below_step (by repeat (first | (with_reducible first | exact HB.out | apply below_alloc | apply pw_below_drewN | apply below_drew1) | exact HB.out)) hb); clear HO_0; clear HB; have HO_0 := n0_; have HB := n1_; clear n0_ n1_; (try clear hb); (try clear hb2); (try clear hk); (try clear hi)) | ((with_reducible refine gate_dst (N := 75) rfl ?_); refine Kd.R_make (Kd.int .i64) _ 3 rfl (N := 75) rfl 28 _ _ rfl 16 rfl rfl Try.underlying28 (.int .i64 0) 8 info3 rfl (by decide) (by omega) 0 (ok := fun _ => True) (okp := fun _ => True) rfl (fun _ hk => hk) trivial (by omega) (by omega) (Below.refl _ _) (Nat.le_refl _) ?_; intro v184 w53 ho54 hb hg_ hnew_; clear hg_ hnew_; (first | rw [← Ny183.out] at ho54 | (simp only [Int.reduceToNat] at ho54; rw [← Ny183.out] at ho54)); have n0_ := Aside0.mk (Kd.V_elder' (by (with_reducible repeat (first | apply Kd.V_alloc | apply Kd.V_drewN | apply Kd.V_drew)); exact HO_0.out) (Kd.R_base ho54) hb); have n1_ := Aside0.mk (Kd.R_lower ho54 (below_size (by repeat (first | (with_reducible first | exact HB.out | apply below_alloc | apply pw_below_drewN | apply below_drew1) | exact HB.out)))); have n2_ := Aside0.mk (below_step (by repeat (first | (with_reducible first | exact HB.out | apply below_alloc | apply pw_below_drewN | apply below_drew1) | exact HB.out)) hb); clear HO_0; clear HB; have HO_0 := n0_; have HO185 := n1_; have HB := n2_; clear n0_ n1_ n2_; clear hb ho54; have p20 : 0 ≤ ((ji17) : Int) := of_decide_eq_true (by first | (with_reducible assumption) | assumption); have q20 : ((ji17) : Int) < ((y183.length : Int) : Int) := of_decide_eq_true (by first | (with_reducible assumption) | assumption); obtain ⟨go20, co20, eo20, gb20, gl20, cl20, HG20⟩ := Kd.R_form HO185.out (by omega); (first | cases eo20 | (injection eo20 with ea_ en_ ec_; (first | subst ea_ | (injection ea_ with ea_; subst ea_)); subst ec_; clear en_)); have GB20 := Aside0.mk gb20; have GG20 := Aside0.mk HG20; clear gb20 gl20 HG20; obtain ⟨hx20_0, hf20_0⟩ := Kd.R_celln 0 HO185.out ((ji17) : Int) p20 q20; replace p20 := eq_true p20; replace q20 := eq_true q20; obtain ⟨hy55_, hz55_⟩ := Kd.R_celln 0 HO185.out ((ji17) : Int) (of_decide_eq_true (by first | (with_reducible assumption) | assumption)) (of_decide_eq_true (by first | (with_reducible assumption) | assumption)); have HP55 := Kd.R_putg HO185.out ((ji17) : Int) (wrap64 (Int.tmod (IntKind.u64.wrap (a1)) 1099511627776))) | ((with_reducible refine gate_store (t := 3) (p := 79) rfl ?_); refine store_event (t := 3) (p := 79) (v := ?vo_w56) (w1 := (w53.setCell ⟨go20, ((ji17) : Int).toNat, none⟩ (.int .i64 (wrap64 (Int.tmod (IntKind.u64.wrap (a1)) 1099511627776))))) ?hg ?ho ?hn ?hr ?_; (case ho => rfl); (case hg => rfl); (case hn => rfl); (case hr => first | (go_simp; done) | (go_simp; rfl)); intro w56 hw; have hg : w53.grownBy w56 (some go20) := (by rw [hw]; exact HP55.2); have hp_ : Kd.R (Kd.int .i64) 3 w56 w.heap.size (fun _ => True) (.slice (some ⟨go20, 0, none⟩) y183.length co20) y186 := (by rw [hw, Ny186.out]; exact HP55.1); clear HP55; have n0_ := Aside0.mk (Kd.V_afterv (v := (.slice (some ⟨go20, 0, none⟩) y183.length co20)) (v1 := (.slice (some ⟨go20, 0, none⟩) y183.length co20)) (ok := (fun _ => True)) (by (with_reducible repeat (first | apply Kd.V_alloc | apply Kd.V_drewN | apply Kd.V_drew)); exact HO_0.out) hg (.inl rfl)); have n1_ := Aside0.mk (hp_); have n2_ := Aside0.mk ((by rw [hw]; exact below_set (HB.out) GB20.out : Below w.heap.size w w56)); clear HO_0; clear HO185; clear HB; have HO_0 := n0_; have HO185 := n1_; have HB := n2_; clear n0_ n1_ n2_; clear hg hw hp_) | ((with_reducible refine gate_callee (f := 37) rfl ?_); refine goesL_ (some 83) rfl rfl Try.func37 (by kernel_rfl) rfl #[.slice (some ⟨go20, 0, none⟩) y186.length co20, .slice Ao51 t172.length co51] rfl (by (try simp only [List.map_toArray, List.map_cons, List.map_nil]); first | done | (rw [show y186.length = y183.length from (Kd.R_reads' HO185.out).1.symm] <;> rfl) | rfl | (simp only [List.length_drop, List.length_take]; rfl)) ?_; (with_reducible refine (vclock_Leq.calls _ _ y186 _ _ t172 t187 t188 _ ?side1 ?side2 ?side3 ?side4 A21.out).mono ?_); (case side1 => repeat (first | exact (Kd.R_reads' HO185.out).2.2 | (with_reducible refine Kd.C_alloc ?_ _) | (with_reducible refine Kd.C_drewN ?_ _) | (with_reducible refine Kd.C_drew ?_))); (case side2 => rw [show y186.length = y183.length from (Kd.R_reads' HO185.out).1.symm]; exact (Kd.R_reads' HO185.out).2.1); (case side3 => repeat (first | exact (Kd.V_reads' HO_0.out).2.2 | (with_reducible refine Kd.C_alloc ?_ _) | (with_reducible refine Kd.C_drewN ?_ _) | (with_reducible refine Kd.C_drew ?_))); (case side4 => exact (Kd.V_reads' HO_0.out).2.1); rintro e w57 ⟨rfl, hb⟩; refine ⟨_, rfl, ?_⟩; have n0_ := Aside0.mk (Kd.V_below (by (with_reducible repeat (first | apply Kd.V_alloc | apply Kd.V_drewN | apply Kd.V_drew)); exact HO_0.out) hb); have n1_ := Aside0.mk (Kd.R_below (by (with_reducible repeat (first | apply Kd.R_alloc | apply Kd.R_drewN | apply Kd.R_drew)); exact HO185.out) hb); have n2_ := Aside0.mk (below_step (by repeat (first | (with_reducible first | exact HB.out | apply below_alloc | apply pw_below_drewN | apply below_drew1) | exact HB.out)) hb); clear HO_0; clear HO185; clear HB; have HO_0 := n0_; have HO185 := n1_; have HB := n2_; clear n0_ n1_ n2_; (try clear hb); (try clear hb2); (try clear hk); (try clear hi)))
                  go_ret
                  exact ⟨by first | rfl | (simp [errW_none, errW_some] <;> rfl) | (simp only [← hji17]; first | rfl | (simp [errW_none, errW_some] <;> rfl)) | (simp [*, errW_none, errW_some] <;> rfl), by repeat (first | (with_reducible first | exact HB.out | apply below_alloc | apply pw_below_drewN | apply below_drew1) | exact HB.out)⟩
                · rw [if_neg c50] at H
                  have c50b0 : (t182 == 1) = false := beq_eq_false_iff_ne.mpr c50
                  have c50b1 : (t182 != 1) = true := bne_iff_ne.mpr c50
                  exact absurd (Option.some.inj H) (by rw [hr_.out]; decide)
            · rw [if_neg c19] at H
              exact absurd H (by simp)
          · rw [if_neg c18] at H
            exact absurd H (by simp)
        · rw [if_neg c16] at H
          exact absurd H (by simp)

/-- THE ONE PURE STATEMENT of plaitlaw02_EpochKnows: yours. -/
def plaitlaw02_EpochKnows.Pure : Prop := ∀ (l0 : List Int) (a1 : Int) (a2 : Int), l0.length ≤ maxLen → l0.length * 8 ≤ 140737488351232 → (∀ x ∈ l0, (Lit.int .i64 x).wf = true) → (Lit.int .i64 a1).wf = true → (Lit.int .i64 a2).wf = true → ∃ k, plaitlaw02_EpochKnows.f k l0 a1 a2 = some true
theorem plaitlaw02_EpochKnows.walk (P : plaitlaw02_EpochKnows.Pure) (a0 : Option Addr) (len0 cap0 : Nat) (z0 : List Int) (a1 : Int) (a2 : Int) (w : World) (w0 : (a0 = none ∧ len0 = 0 ∧ cap0 = 0 ∧ z0 = []) ∨ ∃ x, a0 = some x ∧ len0 ≤ cap0 ∧ cap0 ≤ maxLen ∧ z0.length = cap0 ∧ (∀ i, i < z0.length → w.cell? (x.add i) = some (.int .i64 (z0.getD i 0))) ∧ ∀ n ∈ z0, (Lit.int .i64 n).wf = true) (y0 : len0 * 8 ≤ 140737488351232) (w1 : (Lit.int .i64 a1).wf = true) (w2 : (Lit.int .i64 a2).wf = true) :
    Calls Try.prog 15 #[.slice a0 len0 cap0, .int .i64 a1, .int .i64 a2] w fun e w' => e = .returned (.bool true) ∧ Below w.heap.size w w' := by
  obtain ⟨l0, rfl, hr0, hm0, hw0, hc0⟩ := ReadsInt.ofRowC w0
  obtain ⟨k, h⟩ := P l0 a1 a2 hm0 y0 hw0 w1 w2
  refine (plaitlaw02_EpochKnows.calls k _ _ l0 a1 a2 true w (Kd.C_of_reads (d := (0 : Int)) (h1 := fun _ => rfl) hr0) hc0 h ⟨rfl⟩).mono ?_
  rintro e w' ⟨rfl, hd⟩
  exact ⟨rfl, hd⟩

end Go.Proofs.Ytipmoncamnafbaa.X
