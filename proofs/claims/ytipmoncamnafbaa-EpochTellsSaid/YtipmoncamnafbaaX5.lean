/- Contracts of functions, and walks of laws, written by this session's own program (wip/tools/xprint.py, a driver round the kit's print) out of Lean's print of the loaded program. Lean checks them. -/
import Derived.Test.YtipmoncamnafbaaX0
import Derived.Test.YtipmoncamnafbaaX1
import Derived.Test.YtipmoncamnafbaaX4
import Derived.Test.YtipmoncamnafbaaGiven
namespace Go.Proofs.Ytipmoncamnafbaa.X
open Go.RowKit Go.Proofs.YtipmoncamnafbaaW.PrintWords Go.Proofs.YtipmoncamnafbaaW.PrintLast Go.Proofs.YtipmoncamnafbaaW.PrintMore
attribute [local go_sem] max2_int min2_int max_two min_two max_three min_three max_four min_four   -- for this text's walks alone
set_option linter.unusedVariables false
set_option linter.unusedSimpArgs false

/-! ### plaitlaw02_EpochTells: function 11 -/
mutual
def plaitlaw02_EpochTells.j2 : Nat → Int → List Int → Int → Int → Int → Bool → Int → ByteArray → Int → Option (Bool)
  | 0, _, _, _, _, _, _, _, _, _ => none
  | k + 1, x2, x3, x11, x12, x13, x14, x15, x16, x17 => (plaitref02_Epoch.f x2).bind fun t166 => (if t166 = true then ((plaitref02_Unpack.f x2).bind fun bt167 => (if x13 = 0 then (if x17 = 0 then (if x11 = bt167.1 then (if x12 = bt167.2 then ((plaitref02_Bytes.f k x2).bind fun t169 => (plaitlaw02_EpochTells.j3 k x2 x3 x14 x15 (x16.toList != t169.toList))) else (plaitlaw02_EpochTells.j3 k x2 x3 x14 x15 true)) else (plaitlaw02_EpochTells.j3 k x2 x3 x14 x15 true)) else (plaitlaw02_EpochTells.j3 k x2 x3 x14 x15 true)) else (plaitlaw02_EpochTells.j3 k x2 x3 x14 x15 true))) else (if x13 = 1 then (if x15 = 1 then (if x17 = 1 then (if x11 = 0 then (if x12 = 0 then (if x14 = true then (some false) else (some (x16.toList == ([] : List UInt8)))) else (some false)) else (some false)) else (some false)) else (some false)) else (some false)))
def plaitlaw02_EpochTells.j3 : Nat → Int → List Int → Bool → Int → Bool → Option (Bool)
  | 0, _, _, _, _, _ => none
  | k + 1, x2, x3, x14, x15, x139 => if x139 = true then (some false) else ((plaitref01_Right.f k x3).bind fun t170 => (if t170 = true then (if x15 = 0 then ((plaitref02_Known.f x2 x3).bind fun t171 => (some (x14 == t171))) else (some false)) else (if x15 = 1 then (some (!x14)) else (some false))))
def plaitlaw02_EpochTells.j0 : Nat → Int → Int → Int → List Int → Int → Int → Int → Int → Int → Bool → Int → ByteArray → Int → Bool → Option (Bool)
  | 0, _, _, _, _, _, _, _, _, _, _, _, _, _, _ => none
  | k + 1, x0, x1, x2, x3, x9, x10, x11, x12, x13, x14, x15, x16, x17, x47 => if x47 = true then (if x10 = 1 then (if x9 = 0 then (plaitlaw02_EpochTells.j2 k x2 x3 x11 x12 x13 x14 x15 x16 x17) else (some false)) else (some false)) else (if x1 < 0 then (plaitlaw02_EpochTells.j1 k x0 x1 x2 x3 x9 x10 x11 x12 x13 x14 x15 x16 x17 true) else (plaitlaw02_EpochTells.j1 k x0 x1 x2 x3 x9 x10 x11 x12 x13 x14 x15 x16 x17 (decide (x1 > 15))))
def plaitlaw02_EpochTells.j1 : Nat → Int → Int → Int → List Int → Int → Int → Int → Int → Int → Bool → Int → ByteArray → Int → Bool → Option (Bool)
  | 0, _, _, _, _, _, _, _, _, _, _, _, _, _, _ => none
  | k + 1, x0, x1, x2, x3, x9, x10, x11, x12, x13, x14, x15, x16, x17, x60 => if x60 = true then (if x10 = 3 then (if x9 = 0 then (plaitlaw02_EpochTells.j2 k x2 x3 x11 x12 x13 x14 x15 x16 x17) else (some false)) else (some false)) else (if x10 = 0 then (if x9 = (wrap64 ((wrap64 (16 * x0)) + x1)) then (plaitlaw02_EpochTells.j2 k x2 x3 x11 x12 x13 x14 x15 x16 x17) else (some false)) else (some false))
end
def plaitlaw02_EpochTells.f (k : Nat) (a0 : Int) (a1 : Int) (a2 : Int) (l3 : List Int) : Option (Bool) := (plaitlaw02_few.f l3).bind fun t153 => ((epoch_Pack.f k a0 a1).bind fun bt156 => ((epoch_Unpack.f a2).bind fun bt158 => ((epoch_Known.f a2 t153).bind fun bt161 => ((epoch_Bytes.f a2).bind fun bt163 => ((plaitlaw02_alive.f k).bind fun t165 => (if t165 = true then (if a0 < 0 then (plaitlaw02_EpochTells.j0 k a0 a1 a2 t153 bt156.1 bt156.2 bt158.1 bt158.2.1 bt158.2.2 bt161.1 bt161.2 bt163.1 bt163.2 true) else (plaitlaw02_EpochTells.j0 k a0 a1 a2 t153 bt156.1 bt156.2 bt158.1 bt158.2.1 bt158.2.2 bt161.1 bt161.2 bt163.1 bt163.2 (decide (a0 > 1099511627776)))) else (some false)))))))
theorem plaitlaw02_EpochTells.mono_l : ∀ k, (∀ y0 y1 y2 y3 y4 y5 y6 y7 y8, LeO (plaitlaw02_EpochTells.j2 k y0 y1 y2 y3 y4 y5 y6 y7 y8) (plaitlaw02_EpochTells.j2 (k + 1) y0 y1 y2 y3 y4 y5 y6 y7 y8)) ∧ (∀ y0 y1 y2 y3 y4, LeO (plaitlaw02_EpochTells.j3 k y0 y1 y2 y3 y4) (plaitlaw02_EpochTells.j3 (k + 1) y0 y1 y2 y3 y4)) ∧ (∀ y0 y1 y2 y3 y4 y5 y6 y7 y8 y9 y10 y11 y12 y13, LeO (plaitlaw02_EpochTells.j0 k y0 y1 y2 y3 y4 y5 y6 y7 y8 y9 y10 y11 y12 y13) (plaitlaw02_EpochTells.j0 (k + 1) y0 y1 y2 y3 y4 y5 y6 y7 y8 y9 y10 y11 y12 y13)) ∧ (∀ y0 y1 y2 y3 y4 y5 y6 y7 y8 y9 y10 y11 y12 y13, LeO (plaitlaw02_EpochTells.j1 k y0 y1 y2 y3 y4 y5 y6 y7 y8 y9 y10 y11 y12 y13) (plaitlaw02_EpochTells.j1 (k + 1) y0 y1 y2 y3 y4 y5 y6 y7 y8 y9 y10 y11 y12 y13))
  | 0 => ⟨fun _ _ _ _ _ _ _ _ _ r h => by simp [plaitlaw02_EpochTells.j2] at h, fun _ _ _ _ _ r h => by simp [plaitlaw02_EpochTells.j3] at h, fun _ _ _ _ _ _ _ _ _ _ _ _ _ _ r h => by simp [plaitlaw02_EpochTells.j0] at h, fun _ _ _ _ _ _ _ _ _ _ _ _ _ _ r h => by simp [plaitlaw02_EpochTells.j1] at h⟩
  | k + 1 => by
    obtain ⟨ih0, ih1, ih2, ih3⟩ := plaitlaw02_EpochTells.mono_l k
    refine ⟨?_, ?_, ?_, ?_⟩
    · intro y0 y1 y2 y3 y4 y5 y6 y7 y8
      unfold plaitlaw02_EpochTells.j2
      repeat' first
      | (with_reducible exact ih0 _ _ _ _ _ _ _ _ _)
      | (with_reducible exact ih1 _ _ _ _ _)
      | (with_reducible exact ih2 _ _ _ _ _ _ _ _ _ _ _ _ _ _)
      | (with_reducible exact ih3 _ _ _ _ _ _ _ _ _ _ _ _ _ _)
      | (with_reducible exact epoch_Pack.mono _ _ _)
      | (with_reducible exact plaitlaw02_alive.mono _)
      | (with_reducible exact plaitref01_Right.mono _ _)
      | (with_reducible exact plaitref02_Bytes.mono _ _)
      | (with_reducible exact LeO.refl _)
      | (with_reducible exact LeO.none _)
      | (with_reducible refine LeO.ite ?_ ?_)
      | (with_reducible refine LeO.bind ?_ (fun _ => ?_))
      | exact ih0 _ _ _ _ _ _ _ _ _
      | exact ih1 _ _ _ _ _
      | exact ih2 _ _ _ _ _ _ _ _ _ _ _ _ _ _
      | exact ih3 _ _ _ _ _ _ _ _ _ _ _ _ _ _
      | exact epoch_Pack.mono _ _ _
      | exact plaitlaw02_alive.mono _
      | exact plaitref01_Right.mono _ _
      | exact plaitref02_Bytes.mono _ _
      | exact LeO.none _
      | refine LeO.ite ?_ ?_
      | refine LeO.bind ?_ (fun _ => ?_)
    · intro y0 y1 y2 y3 y4
      unfold plaitlaw02_EpochTells.j3
      repeat' first
      | (with_reducible exact ih0 _ _ _ _ _ _ _ _ _)
      | (with_reducible exact ih1 _ _ _ _ _)
      | (with_reducible exact ih2 _ _ _ _ _ _ _ _ _ _ _ _ _ _)
      | (with_reducible exact ih3 _ _ _ _ _ _ _ _ _ _ _ _ _ _)
      | (with_reducible exact epoch_Pack.mono _ _ _)
      | (with_reducible exact plaitlaw02_alive.mono _)
      | (with_reducible exact plaitref01_Right.mono _ _)
      | (with_reducible exact plaitref02_Bytes.mono _ _)
      | (with_reducible exact LeO.refl _)
      | (with_reducible exact LeO.none _)
      | (with_reducible refine LeO.ite ?_ ?_)
      | (with_reducible refine LeO.bind ?_ (fun _ => ?_))
      | exact ih0 _ _ _ _ _ _ _ _ _
      | exact ih1 _ _ _ _ _
      | exact ih2 _ _ _ _ _ _ _ _ _ _ _ _ _ _
      | exact ih3 _ _ _ _ _ _ _ _ _ _ _ _ _ _
      | exact epoch_Pack.mono _ _ _
      | exact plaitlaw02_alive.mono _
      | exact plaitref01_Right.mono _ _
      | exact plaitref02_Bytes.mono _ _
      | exact LeO.none _
      | refine LeO.ite ?_ ?_
      | refine LeO.bind ?_ (fun _ => ?_)
    · intro y0 y1 y2 y3 y4 y5 y6 y7 y8 y9 y10 y11 y12 y13
      unfold plaitlaw02_EpochTells.j0
      repeat' first
      | (with_reducible exact ih0 _ _ _ _ _ _ _ _ _)
      | (with_reducible exact ih1 _ _ _ _ _)
      | (with_reducible exact ih2 _ _ _ _ _ _ _ _ _ _ _ _ _ _)
      | (with_reducible exact ih3 _ _ _ _ _ _ _ _ _ _ _ _ _ _)
      | (with_reducible exact epoch_Pack.mono _ _ _)
      | (with_reducible exact plaitlaw02_alive.mono _)
      | (with_reducible exact plaitref01_Right.mono _ _)
      | (with_reducible exact plaitref02_Bytes.mono _ _)
      | (with_reducible exact LeO.refl _)
      | (with_reducible exact LeO.none _)
      | (with_reducible refine LeO.ite ?_ ?_)
      | (with_reducible refine LeO.bind ?_ (fun _ => ?_))
      | exact ih0 _ _ _ _ _ _ _ _ _
      | exact ih1 _ _ _ _ _
      | exact ih2 _ _ _ _ _ _ _ _ _ _ _ _ _ _
      | exact ih3 _ _ _ _ _ _ _ _ _ _ _ _ _ _
      | exact epoch_Pack.mono _ _ _
      | exact plaitlaw02_alive.mono _
      | exact plaitref01_Right.mono _ _
      | exact plaitref02_Bytes.mono _ _
      | exact LeO.none _
      | refine LeO.ite ?_ ?_
      | refine LeO.bind ?_ (fun _ => ?_)
    · intro y0 y1 y2 y3 y4 y5 y6 y7 y8 y9 y10 y11 y12 y13
      unfold plaitlaw02_EpochTells.j1
      repeat' first
      | (with_reducible exact ih0 _ _ _ _ _ _ _ _ _)
      | (with_reducible exact ih1 _ _ _ _ _)
      | (with_reducible exact ih2 _ _ _ _ _ _ _ _ _ _ _ _ _ _)
      | (with_reducible exact ih3 _ _ _ _ _ _ _ _ _ _ _ _ _ _)
      | (with_reducible exact epoch_Pack.mono _ _ _)
      | (with_reducible exact plaitlaw02_alive.mono _)
      | (with_reducible exact plaitref01_Right.mono _ _)
      | (with_reducible exact plaitref02_Bytes.mono _ _)
      | (with_reducible exact LeO.refl _)
      | (with_reducible exact LeO.none _)
      | (with_reducible refine LeO.ite ?_ ?_)
      | (with_reducible refine LeO.bind ?_ (fun _ => ?_))
      | exact ih0 _ _ _ _ _ _ _ _ _
      | exact ih1 _ _ _ _ _
      | exact ih2 _ _ _ _ _ _ _ _ _ _ _ _ _ _
      | exact ih3 _ _ _ _ _ _ _ _ _ _ _ _ _ _
      | exact epoch_Pack.mono _ _ _
      | exact plaitlaw02_alive.mono _
      | exact plaitref01_Right.mono _ _
      | exact plaitref02_Bytes.mono _ _
      | exact LeO.none _
      | refine LeO.ite ?_ ?_
      | refine LeO.bind ?_ (fun _ => ?_)
theorem plaitlaw02_EpochTells.mono : ∀ a0 a1 a2 a3 k, LeO (plaitlaw02_EpochTells.f k a0 a1 a2 a3) (plaitlaw02_EpochTells.f (k + 1) a0 a1 a2 a3) := by
  intro a0 a1 a2 a3 k
  obtain ⟨ih0, ih1, ih2, ih3⟩ := plaitlaw02_EpochTells.mono_l k
  unfold plaitlaw02_EpochTells.f
  repeat' first
      | (with_reducible exact ih0 _ _ _ _ _ _ _ _ _)
      | (with_reducible exact ih1 _ _ _ _ _)
      | (with_reducible exact ih2 _ _ _ _ _ _ _ _ _ _ _ _ _ _)
      | (with_reducible exact ih3 _ _ _ _ _ _ _ _ _ _ _ _ _ _)
      | (with_reducible exact epoch_Pack.mono _ _ _)
      | (with_reducible exact plaitlaw02_alive.mono _)
      | (with_reducible exact plaitref01_Right.mono _ _)
      | (with_reducible exact plaitref02_Bytes.mono _ _)
      | (with_reducible exact LeO.refl _)
      | (with_reducible exact LeO.none _)
      | (with_reducible refine LeO.ite ?_ ?_)
      | (with_reducible refine LeO.bind ?_ (fun _ => ?_))
      | exact ih0 _ _ _ _ _ _ _ _ _
      | exact ih1 _ _ _ _ _
      | exact ih2 _ _ _ _ _ _ _ _ _ _ _ _ _ _
      | exact ih3 _ _ _ _ _ _ _ _ _ _ _ _ _ _
      | exact epoch_Pack.mono _ _ _
      | exact plaitlaw02_alive.mono _
      | exact plaitref01_Right.mono _ _
      | exact plaitref02_Bytes.mono _ _
      | exact LeO.none _
      | refine LeO.ite ?_ ?_
      | refine LeO.bind ?_ (fun _ => ?_)
set_option maxHeartbeats 8000000 in
set_option maxRecDepth 100000 in
theorem plaitlaw02_EpochTells.calls (k : Nat) (a0 : Int) (a1 : Int) (a2 : Int) (A3 : Option Addr) (c3 : Nat) (l3 : List Int) (r : Bool) (w : World) (hr3 : Kd.C (Kd.int .i64) w A3 l3.length l3) (hc3 : l3.length ≤ c3) (h : plaitlaw02_EpochTells.f k a0 a1 a2 l3 = some r) (hr_ : Aside0 (r = true)) :
    Calls Try.prog 11 #[.int .i64 a0, .int .i64 a1, .int .i64 a2, .slice A3 l3.length c3] w fun e w' => e = .returned (.bool r) ∧ Below w.heap.size w w' := by
  have HR3 := Aside0.mk hr3
  have HC3 := Aside0.mk hc3
  clear hr3 hc3
  have HB := Aside0.mk (Below.refl w.heap.size w)
  have H : ((plaitlaw02_few.f l3).bind fun t153 => ((epoch_Pack.f k a0 a1).bind fun bt156 => ((epoch_Unpack.f a2).bind fun bt158 => ((epoch_Known.f a2 t153).bind fun bt161 => ((epoch_Bytes.f a2).bind fun bt163 => ((plaitlaw02_alive.f k).bind fun t165 => (if t165 = true then (if a0 < 0 then (plaitlaw02_EpochTells.j0 k a0 a1 a2 t153 bt156.1 bt156.2 bt158.1 bt158.2.1 bt158.2.2 bt161.1 bt161.2 bt163.1 bt163.2 true) else (plaitlaw02_EpochTells.j0 k a0 a1 a2 t153 bt156.1 bt156.2 bt158.1 bt158.2.1 bt158.2.2 bt161.1 bt161.2 bt163.1 bt163.2 (decide (a0 > 1099511627776)))) else (some false)))))))) = some r := h
  clear h
  replace H := Option.bind_eq_some_iff.mp H
  obtain ⟨t153, A50, H⟩ := H
  replace H : ((epoch_Pack.f k a0 a1).bind fun bt156 => ((epoch_Unpack.f a2).bind fun bt158 => ((epoch_Known.f a2 t153).bind fun bt161 => ((epoch_Bytes.f a2).bind fun bt163 => ((plaitlaw02_alive.f k).bind fun t165 => (if t165 = true then (if a0 < 0 then (plaitlaw02_EpochTells.j0 k a0 a1 a2 t153 bt156.1 bt156.2 bt158.1 bt158.2.1 bt158.2.2 bt161.1 bt161.2 bt163.1 bt163.2 true) else (plaitlaw02_EpochTells.j0 k a0 a1 a2 t153 bt156.1 bt156.2 bt158.1 bt158.2.1 bt158.2.2 bt161.1 bt161.2 bt163.1 bt163.2 (decide (a0 > 1099511627776)))) else (some false))))))) = some r := H
  have A5 := Aside0.mk A50
  clear A50
  replace H := Option.bind_eq_some_iff.mp H
  obtain ⟨⟨t156, t157⟩, A60, H⟩ := H
  replace H : ((epoch_Unpack.f a2).bind fun bt158 => ((epoch_Known.f a2 t153).bind fun bt161 => ((epoch_Bytes.f a2).bind fun bt163 => ((plaitlaw02_alive.f k).bind fun t165 => (if t165 = true then (if a0 < 0 then (plaitlaw02_EpochTells.j0 k a0 a1 a2 t153 t156 t157 bt158.1 bt158.2.1 bt158.2.2 bt161.1 bt161.2 bt163.1 bt163.2 true) else (plaitlaw02_EpochTells.j0 k a0 a1 a2 t153 t156 t157 bt158.1 bt158.2.1 bt158.2.2 bt161.1 bt161.2 bt163.1 bt163.2 (decide (a0 > 1099511627776)))) else (some false)))))) = some r := H
  have A6 := Aside0.mk A60
  clear A60
  replace H := Option.bind_eq_some_iff.mp H
  obtain ⟨⟨t158, t159, t160⟩, A70, H⟩ := H
  replace H : ((epoch_Known.f a2 t153).bind fun bt161 => ((epoch_Bytes.f a2).bind fun bt163 => ((plaitlaw02_alive.f k).bind fun t165 => (if t165 = true then (if a0 < 0 then (plaitlaw02_EpochTells.j0 k a0 a1 a2 t153 t156 t157 t158 t159 t160 bt161.1 bt161.2 bt163.1 bt163.2 true) else (plaitlaw02_EpochTells.j0 k a0 a1 a2 t153 t156 t157 t158 t159 t160 bt161.1 bt161.2 bt163.1 bt163.2 (decide (a0 > 1099511627776)))) else (some false))))) = some r := H
  have A7 := Aside0.mk A70
  clear A70
  replace H := Option.bind_eq_some_iff.mp H
  obtain ⟨⟨t161, t162⟩, A80, H⟩ := H
  replace H : ((epoch_Bytes.f a2).bind fun bt163 => ((plaitlaw02_alive.f k).bind fun t165 => (if t165 = true then (if a0 < 0 then (plaitlaw02_EpochTells.j0 k a0 a1 a2 t153 t156 t157 t158 t159 t160 t161 t162 bt163.1 bt163.2 true) else (plaitlaw02_EpochTells.j0 k a0 a1 a2 t153 t156 t157 t158 t159 t160 t161 t162 bt163.1 bt163.2 (decide (a0 > 1099511627776)))) else (some false)))) = some r := H
  have A8 := Aside0.mk A80
  clear A80
  replace H := Option.bind_eq_some_iff.mp H
  obtain ⟨⟨t163, t164⟩, A90, H⟩ := H
  replace H : ((plaitlaw02_alive.f k).bind fun t165 => (if t165 = true then (if a0 < 0 then (plaitlaw02_EpochTells.j0 k a0 a1 a2 t153 t156 t157 t158 t159 t160 t161 t162 t163 t164 true) else (plaitlaw02_EpochTells.j0 k a0 a1 a2 t153 t156 t157 t158 t159 t160 t161 t162 t163 t164 (decide (a0 > 1099511627776)))) else (some false))) = some r := H
  have A9 := Aside0.mk A90
  clear A90
  replace H := Option.bind_eq_some_iff.mp H
  obtain ⟨t165, A100, H⟩ := H
  replace H : (if t165 = true then (if a0 < 0 then (plaitlaw02_EpochTells.j0 k a0 a1 a2 t153 t156 t157 t158 t159 t160 t161 t162 t163 t164 true) else (plaitlaw02_EpochTells.j0 k a0 a1 a2 t153 t156 t157 t158 t159 t160 t161 t162 t163 t164 (decide (a0 > 1099511627776)))) else (some false)) = some r := H
  have A10 := Aside0.mk A100
  clear A100
  by_cases c11 : t165 = true
  · subst c11
    have H1 : (if a0 < 0 then (plaitlaw02_EpochTells.j0 k a0 a1 a2 t153 t156 t157 t158 t159 t160 t161 t162 t163 t164 true) else (plaitlaw02_EpochTells.j0 k a0 a1 a2 t153 t156 t157 t158 t159 t160 t161 t162 t163 t164 (decide (a0 > 1099511627776)))) = some r := by rw [if_pos rfl] at H; exact H
    clear H
    have H := H1
    clear H1
    have HC12 := Aside0.mk H
    clear H
    go_enter Try.func11, Try.ntmps11
    go_upto_block 0 with (first | ((with_reducible refine gate_callee (f := 44) rfl ?_); refine goesL_ (some 21) rfl rfl Try.func44 (by kernel_rfl) rfl #[.slice A3 l3.length c3] rfl (by (try simp only [List.map_toArray, List.map_cons, List.map_nil]); first | done | rfl | (simp only [List.length_drop, List.length_take]; rfl)) ?_; (with_reducible refine (plaitlaw02_few.calls (fun k_ => k_ < w.heap.size) _ _ l3 t153 _ ?side1 A5.out).mono ?_); (case side1 => exact Kd.V_mk HC3.out (Kd.F_below (Kd.C_F (Kd.heap_int .i64) HR3.out) (by repeat (first | (with_reducible first | exact HB.out | apply below_alloc | apply pw_below_drewN | apply below_drew1) | exact HB.out)))); rintro e w13 ⟨v154, rfl, ho0, hb⟩; refine ⟨_, rfl, ?_⟩; have n0_ := Aside0.mk (Kd.V_lower (Kd.V_mono (ok' := fun k_ => True) ho0 (fun k_ hk_ => trivial)) (below_size (by repeat (first | (with_reducible first | exact HB.out | apply below_alloc | apply pw_below_drewN | apply below_drew1) | exact HB.out)))); have n1_ := Aside0.mk (below_step (by repeat (first | (with_reducible first | exact HB.out | apply below_alloc | apply pw_below_drewN | apply below_drew1) | exact HB.out)) hb); clear HB; have HO155 := n0_; have HB := n1_; clear n0_ n1_; (try clear hb); (try clear hb2); (try clear hk); (try clear hi); (try clear ho0)) | ((with_reducible refine gate_callee (f := 21) rfl ?_); refine goesL_ (some 25) rfl rfl Try.func21 (by kernel_rfl) rfl #[.int .i64 a0, .int .i64 a1] rfl (by (try simp only [List.map_toArray, List.map_cons, List.map_nil]); first | done | rfl | (simp only [List.length_drop, List.length_take]; rfl)) ?_; (with_reducible refine (epoch_Pack.calls k a0 a1 t156 t157 _ A6.out).mono ?_); rintro e w' ⟨rfl, ⟨nd, rfl⟩⟩; refine ⟨_, rfl, ?_⟩) | ((with_reducible refine gate_callee (f := 45) rfl ?_); refine goesL_ (some 30) rfl rfl Try.func45 (by kernel_rfl) rfl #[.int .i64 a2] rfl (by (try simp only [List.map_toArray, List.map_cons, List.map_nil]); first | done | rfl | (simp only [List.length_drop, List.length_take]; rfl)) ?_; (with_reducible refine (epoch_Unpack.calls a2 t158 t159 t160 _ A7.out).mono ?_); rintro e w' ⟨rfl, ⟨nd, rfl⟩⟩; refine ⟨_, rfl, ?_⟩; obtain ⟨Ao14, co14, eo14⟩ := Kd.V_slice HO155.out; subst eo14) | ((with_reducible refine gate_callee (f := 46) rfl ?_); refine goesL_ (some 37) rfl rfl Try.func46 (by kernel_rfl) rfl #[.int .i64 a2, .slice Ao14 t153.length co14] rfl (by (try simp only [List.map_toArray, List.map_cons, List.map_nil]); first | done | rfl | (simp only [List.length_drop, List.length_take]; rfl)) ?_; (with_reducible refine (epoch_Known.calls a2 _ _ t153 t161 t162 _ ?side1 ?side2 A8.out).mono ?_); (case side1 => repeat (first | exact (Kd.V_reads' HO155.out).2.2 | (with_reducible refine Kd.C_alloc ?_ _) | (with_reducible refine Kd.C_drewN ?_ _) | (with_reducible refine Kd.C_drew ?_))); (case side2 => exact (Kd.V_reads' HO155.out).2.1); rintro e w15 ⟨rfl, hb⟩; refine ⟨_, rfl, ?_⟩; have n0_ := Aside0.mk (Kd.V_below (by (with_reducible repeat (first | apply Kd.V_alloc | apply Kd.V_drewN | apply Kd.V_drew)); exact HO155.out) hb); have n1_ := Aside0.mk (below_step (by repeat (first | (with_reducible first | exact HB.out | apply below_alloc | apply pw_below_drewN | apply below_drew1) | exact HB.out)) hb); clear HO155; clear HB; have HO155 := n0_; have HB := n1_; clear n0_ n1_; (try clear hb); (try clear hb2); (try clear hk); (try clear hi)) | ((with_reducible refine gate_callee (f := 22) rfl ?_); refine goesL_ (some 42) rfl rfl Try.func22 (by kernel_rfl) rfl #[.int .i64 a2] rfl (by (try simp only [List.map_toArray, List.map_cons, List.map_nil]); first | done | rfl | (simp only [List.length_drop, List.length_take]; rfl)) ?_; (with_reducible refine (epoch_Bytes.calls a2 t163 t164 _ A9.out).mono ?_); rintro e w16 ⟨rfl, hb⟩; refine ⟨_, rfl, ?_⟩; have n0_ := Aside0.mk (Kd.V_below (by (with_reducible repeat (first | apply Kd.V_alloc | apply Kd.V_drewN | apply Kd.V_drew)); exact HO155.out) hb); have n1_ := Aside0.mk (below_step (by repeat (first | (with_reducible first | exact HB.out | apply below_alloc | apply pw_below_drewN | apply below_drew1) | exact HB.out)) hb); clear HO155; clear HB; have HO155 := n0_; have HB := n1_; clear n0_ n1_; (try clear hb); (try clear hb2); (try clear hk); (try clear hi)) | ((with_reducible refine gate_callee (f := 18) rfl ?_); refine goesL_ (some 45) rfl rfl Try.func18 (by kernel_rfl) rfl #[] rfl (by (try simp only [List.map_toArray, List.map_cons, List.map_nil]); first | done | rfl | (simp only [List.length_drop, List.length_take]; rfl)) ?_; (with_reducible refine (plaitlaw02_alive.calls k  true _ A10.out).mono ?_); rintro e w' ⟨rfl, ⟨nd, rfl⟩⟩; refine ⟨_, rfl, ?_⟩))
    (try simp only [Act.put, List.setIfInBounds_toArray, List.set_cons_zero, List.set_cons_succ])
    go_cut [] (fun wc => ∃ (kq : Nat), Aside0 (plaitlaw02_EpochTells.j2 kq a2 t153 t158 t159 t160 t161 t162 t163 t164 = some r) ∧ Aside0 (kq ≤ k) ∧ Aside0 (Kd.V (Kd.int .i64) 3 wc w.heap.size (fun _ => True) (.slice Ao14 t153.length co14) t153) ∧ Aside0 (Below w.heap.size w wc))
    case first =>
      have H := HC12.out
      clear HC12
      have HC17 := Aside0.mk H
      clear H
      go_upto_region 8 with (fail)
      go_cut [47] (fun v47 wc => ∃ (kq : Nat) (x47_16 : Bool), v47 = .bool x47_16 ∧ Aside0 (plaitlaw02_EpochTells.j0 kq a0 a1 a2 t153 t156 t157 t158 t159 t160 t161 t162 t163 t164 x47_16 = some r) ∧ Aside0 (kq ≤ k) ∧ Aside0 (Kd.V (Kd.int .i64) 3 wc w.heap.size (fun _ => True) (.slice Ao14 t153.length co14) t153) ∧ Aside0 (Below w.heap.size w wc))
      case first =>
        have H := HC17.out
        clear HC17
        by_cases c18 : a0 < 0
        · rw [if_pos c18] at H
          have c18b0 : decide (a0 < 0) = true := decide_eq_true c18
          clear c18
          (first | rw [c18b0] | (simp only [i64_w, i32_w]; rw [c18b0]) | skip)
          have H' := Aside0.mk H
          clear H
          go_wp2
          go_meet
          case rel => exact ⟨_, (true), (by first | rfl | (simp; done) | (simp [*]; done)), H', ⟨by first | omega | exact Nat.le_refl _⟩, ⟨by (with_reducible repeat (first | apply Kd.V_alloc | apply Kd.V_drewN | apply Kd.V_drew)); exact HO155.out⟩, ⟨by repeat (first | (with_reducible first | exact HB.out | apply below_alloc | apply pw_below_drewN | apply below_drew1) | exact HB.out)⟩⟩
        · rw [if_neg c18] at H
          have c18b0 : decide (a0 < 0) = false := decide_eq_false c18
          clear c18
          (first | rw [c18b0] | (simp only [i64_w, i32_w]; rw [c18b0]) | skip)
          have H' := Aside0.mk H
          clear H
          go_wp2
          go_meet
          case rel => exact ⟨_, (decide (a0 > 1099511627776)), (by first | rfl | (simp; done) | (simp [*]; done)), H', ⟨by first | omega | exact Nat.le_refl _⟩, ⟨by (with_reducible repeat (first | apply Kd.V_alloc | apply Kd.V_drewN | apply Kd.V_drew)); exact HO155.out⟩, ⟨by repeat (first | (with_reducible first | exact HB.out | apply below_alloc | apply pw_below_drewN | apply below_drew1) | exact HB.out)⟩⟩
      case rest =>
        clear HC17
        try clear c1
        try clear c2
        try clear p2
        try clear c3
        try clear c4
        try clear c11
        try clear c18
        try clear c18b0
        obtain ⟨kq, x47_16, rfl, HA, HJ16, HO_3, HB⟩ := hcut
        cases kq with
        | zero => exact absurd HA.out (by simp [plaitlaw02_EpochTells.j0])
        | succ kj16 =>
          have H := HA.out
          clear HA
          simp only [plaitlaw02_EpochTells.j0] at H
          by_cases c19 : x47_16 = true
          · subst c19
            have H1 : (if t157 = 1 then (if t156 = 0 then (plaitlaw02_EpochTells.j2 kj16 a2 t153 t158 t159 t160 t161 t162 t163 t164) else (some false)) else (some false)) = some r := by rw [if_pos rfl] at H; exact H
            clear H
            have H := H1
            clear H1
            by_cases c20 : t157 = 1
            · rw [if_pos c20] at H
              have c20b0 : (t157 == 1) = true := beq_iff_eq.mpr c20
              have c20b1 : (t157 != 1) = false := bne_eq_false_iff_eq.mpr c20
              clear c20
              by_cases c21 : t156 = 0
              · rw [if_pos c21] at H
                have c21b0 : (t156 == 0) = true := beq_iff_eq.mpr c21
                have c21b1 : (t156 != 0) = false := bne_eq_false_iff_eq.mpr c21
                clear c21
                have H' := Aside0.mk H
                clear H
                go_wp2
                go_meet
                case rel => exact ⟨_, H', ⟨by have := HJ16.out; first | omega | exact Nat.le_refl _⟩, ⟨by (with_reducible repeat (first | apply Kd.V_alloc | apply Kd.V_drewN | apply Kd.V_drew)); exact HO_3.out⟩, ⟨by repeat (first | (with_reducible first | exact HB.out | apply below_alloc | apply pw_below_drewN | apply below_drew1) | exact HB.out)⟩⟩
              · rw [if_neg c21] at H
                have c21b0 : (t156 == 0) = false := beq_eq_false_iff_ne.mpr c21
                have c21b1 : (t156 != 0) = true := bne_iff_ne.mpr c21
                exact absurd (Option.some.inj H) (by rw [hr_.out]; decide)
            · rw [if_neg c20] at H
              have c20b0 : (t157 == 1) = false := beq_eq_false_iff_ne.mpr c20
              have c20b1 : (t157 != 1) = true := bne_iff_ne.mpr c20
              exact absurd (Option.some.inj H) (by rw [hr_.out]; decide)
          · replace c19 := Bool.eq_false_iff.mpr c19
            subst c19
            have H1 : (if a1 < 0 then (plaitlaw02_EpochTells.j1 kj16 a0 a1 a2 t153 t156 t157 t158 t159 t160 t161 t162 t163 t164 true) else (plaitlaw02_EpochTells.j1 kj16 a0 a1 a2 t153 t156 t157 t158 t159 t160 t161 t162 t163 t164 (decide (a1 > 15)))) = some r := by rw [if_neg (show ¬ (false = true) by decide)] at H; exact H
            clear H
            have H := H1
            clear H1
            have HC22 := Aside0.mk H
            clear H
            go_upto_region 11 with (fail)
            go_cut [60] (fun v60 wc => ∃ (kq : Nat) (x60_21 : Bool), v60 = .bool x60_21 ∧ Aside0 (plaitlaw02_EpochTells.j1 kq a0 a1 a2 t153 t156 t157 t158 t159 t160 t161 t162 t163 t164 x60_21 = some r) ∧ Aside0 (kq ≤ kj16) ∧ Aside0 (Kd.V (Kd.int .i64) 3 wc w.heap.size (fun _ => True) (.slice Ao14 t153.length co14) t153) ∧ Aside0 (Below w.heap.size w wc))
            case first =>
              have H := HC22.out
              clear HC22
              by_cases c23 : a1 < 0
              · rw [if_pos c23] at H
                have c23b0 : decide (a1 < 0) = true := decide_eq_true c23
                clear c23
                (first | rw [c23b0] | (simp only [i64_w, i32_w]; rw [c23b0]) | skip)
                have H' := Aside0.mk H
                clear H
                go_wp2
                go_meet
                case rel => exact ⟨_, (true), (by first | rfl | (simp; done) | (simp [*]; done)), H', ⟨by have := HJ16.out; first | omega | exact Nat.le_refl _⟩, ⟨by (with_reducible repeat (first | apply Kd.V_alloc | apply Kd.V_drewN | apply Kd.V_drew)); exact HO_3.out⟩, ⟨by repeat (first | (with_reducible first | exact HB.out | apply below_alloc | apply pw_below_drewN | apply below_drew1) | exact HB.out)⟩⟩
              · rw [if_neg c23] at H
                have c23b0 : decide (a1 < 0) = false := decide_eq_false c23
                clear c23
                (first | rw [c23b0] | (simp only [i64_w, i32_w]; rw [c23b0]) | skip)
                have H' := Aside0.mk H
                clear H
                go_wp2
                go_meet
                case rel => exact ⟨_, (decide (a1 > 15)), (by first | rfl | (simp; done) | (simp [*]; done)), H', ⟨by have := HJ16.out; first | omega | exact Nat.le_refl _⟩, ⟨by (with_reducible repeat (first | apply Kd.V_alloc | apply Kd.V_drewN | apply Kd.V_drew)); exact HO_3.out⟩, ⟨by repeat (first | (with_reducible first | exact HB.out | apply below_alloc | apply pw_below_drewN | apply below_drew1) | exact HB.out)⟩⟩
            case rest =>
              clear HC22
              try clear c1
              try clear c2
              try clear p2
              try clear c3
              try clear c4
              try clear c11
              try clear c18
              try clear c18b0
              try clear c19
              try clear c20
              try clear c20b0
              try clear c20b1
              try clear c21
              try clear c21b0
              try clear c21b1
              try clear c22
              try clear c23
              try clear c23b0
              try clear p2
              obtain ⟨kq, x60_21, rfl, HA, HJ21, HO_3, HB⟩ := hcut
              cases kq with
              | zero => exact absurd HA.out (by simp [plaitlaw02_EpochTells.j1])
              | succ kj21 =>
                have H := HA.out
                clear HA
                simp only [plaitlaw02_EpochTells.j1] at H
                by_cases c24 : x60_21 = true
                · subst c24
                  have H1 : (if t157 = 3 then (if t156 = 0 then (plaitlaw02_EpochTells.j2 kj21 a2 t153 t158 t159 t160 t161 t162 t163 t164) else (some false)) else (some false)) = some r := by rw [if_pos rfl] at H; exact H
                  clear H
                  have H := H1
                  clear H1
                  by_cases c25 : t157 = 3
                  · rw [if_pos c25] at H
                    have c25b0 : (t157 == 3) = true := beq_iff_eq.mpr c25
                    have c25b1 : (t157 != 3) = false := bne_eq_false_iff_eq.mpr c25
                    clear c25
                    by_cases c26 : t156 = 0
                    · rw [if_pos c26] at H
                      have c26b0 : (t156 == 0) = true := beq_iff_eq.mpr c26
                      have c26b1 : (t156 != 0) = false := bne_eq_false_iff_eq.mpr c26
                      clear c26
                      have H' := Aside0.mk H
                      clear H
                      go_wp2
                      go_meet
                      case rel => exact ⟨_, H', ⟨by have := HJ16.out; have := HJ21.out; first | omega | exact Nat.le_refl _⟩, ⟨by (with_reducible repeat (first | apply Kd.V_alloc | apply Kd.V_drewN | apply Kd.V_drew)); exact HO_3.out⟩, ⟨by repeat (first | (with_reducible first | exact HB.out | apply below_alloc | apply pw_below_drewN | apply below_drew1) | exact HB.out)⟩⟩
                    · rw [if_neg c26] at H
                      have c26b0 : (t156 == 0) = false := beq_eq_false_iff_ne.mpr c26
                      have c26b1 : (t156 != 0) = true := bne_iff_ne.mpr c26
                      exact absurd (Option.some.inj H) (by rw [hr_.out]; decide)
                  · rw [if_neg c25] at H
                    have c25b0 : (t157 == 3) = false := beq_eq_false_iff_ne.mpr c25
                    have c25b1 : (t157 != 3) = true := bne_iff_ne.mpr c25
                    exact absurd (Option.some.inj H) (by rw [hr_.out]; decide)
                · replace c24 := Bool.eq_false_iff.mpr c24
                  subst c24
                  have H1 : (if t157 = 0 then (if t156 = (wrap64 ((wrap64 (16 * a0)) + a1)) then (plaitlaw02_EpochTells.j2 kj21 a2 t153 t158 t159 t160 t161 t162 t163 t164) else (some false)) else (some false)) = some r := by rw [if_neg (show ¬ (false = true) by decide)] at H; exact H
                  clear H
                  have H := H1
                  clear H1
                  by_cases c27 : t157 = 0
                  · rw [if_pos c27] at H
                    have c27b0 : (t157 == 0) = true := beq_iff_eq.mpr c27
                    have c27b1 : (t157 != 0) = false := bne_eq_false_iff_eq.mpr c27
                    clear c27
                    by_cases c28 : t156 = (wrap64 ((wrap64 (16 * a0)) + a1))
                    · rw [if_pos c28] at H
                      have c28b0 : (t156 == (wrap64 ((wrap64 (16 * a0)) + a1))) = true := beq_iff_eq.mpr c28
                      have c28b1 : (t156 != (wrap64 ((wrap64 (16 * a0)) + a1))) = false := bne_eq_false_iff_eq.mpr c28
                      clear c28
                      have H' := Aside0.mk H
                      clear H
                      go_wp2
                      go_meet
                      case rel => exact ⟨_, H', ⟨by have := HJ16.out; have := HJ21.out; first | omega | exact Nat.le_refl _⟩, ⟨by (with_reducible repeat (first | apply Kd.V_alloc | apply Kd.V_drewN | apply Kd.V_drew)); exact HO_3.out⟩, ⟨by repeat (first | (with_reducible first | exact HB.out | apply below_alloc | apply pw_below_drewN | apply below_drew1) | exact HB.out)⟩⟩
                    · rw [if_neg c28] at H
                      have c28b0 : (t156 == (wrap64 ((wrap64 (16 * a0)) + a1))) = false := beq_eq_false_iff_ne.mpr c28
                      have c28b1 : (t156 != (wrap64 ((wrap64 (16 * a0)) + a1))) = true := bne_iff_ne.mpr c28
                      exact absurd (Option.some.inj H) (by rw [hr_.out]; decide)
                  · rw [if_neg c27] at H
                    have c27b0 : (t157 == 0) = false := beq_eq_false_iff_ne.mpr c27
                    have c27b1 : (t157 != 0) = true := bne_iff_ne.mpr c27
                    exact absurd (Option.some.inj H) (by rw [hr_.out]; decide)
    case rest =>
      clear HC12
      try clear c1
      try clear c2
      try clear p2
      try clear c3
      try clear c4
      try clear p6
      try clear c11
      try clear c18
      try clear c18b0
      try clear c19
      try clear c20
      try clear c20b0
      try clear c20b1
      try clear c21
      try clear c21b0
      try clear c21b1
      try clear c22
      try clear c23
      try clear c23b0
      try clear c24
      try clear c25
      try clear c25b0
      try clear c25b1
      try clear c26
      try clear c26b0
      try clear c26b1
      try clear c27
      try clear c27b0
      try clear c27b1
      try clear c28
      try clear c28b0
      try clear c28b1
      try clear p2
      obtain ⟨kq, HA, HJ11, HO_3, HB⟩ := hcut
      cases kq with
      | zero => exact absurd HA.out (by simp [plaitlaw02_EpochTells.j2])
      | succ kj11 =>
        have H := HA.out
        clear HA
        simp only [plaitlaw02_EpochTells.j2] at H
        replace H := Option.bind_eq_some_iff.mp H
        obtain ⟨t166, A290, H⟩ := H
        replace H : (if t166 = true then ((plaitref02_Unpack.f a2).bind fun bt167 => (if t160 = 0 then (if t164 = 0 then (if t158 = bt167.1 then (if t159 = bt167.2 then ((plaitref02_Bytes.f kj11 a2).bind fun t169 => (plaitlaw02_EpochTells.j3 kj11 a2 t153 t161 t162 (t163.toList != t169.toList))) else (plaitlaw02_EpochTells.j3 kj11 a2 t153 t161 t162 true)) else (plaitlaw02_EpochTells.j3 kj11 a2 t153 t161 t162 true)) else (plaitlaw02_EpochTells.j3 kj11 a2 t153 t161 t162 true)) else (plaitlaw02_EpochTells.j3 kj11 a2 t153 t161 t162 true))) else (if t160 = 1 then (if t162 = 1 then (if t164 = 1 then (if t158 = 0 then (if t159 = 0 then (if t161 = true then (some false) else (some (t163.toList == ([] : List UInt8)))) else (some false)) else (some false)) else (some false)) else (some false)) else (some false))) = some r := H
        have A29 := Aside0.mk A290
        clear A290
        by_cases c30 : t166 = true
        · subst c30
          have H1 : ((plaitref02_Unpack.f a2).bind fun bt167 => (if t160 = 0 then (if t164 = 0 then (if t158 = bt167.1 then (if t159 = bt167.2 then ((plaitref02_Bytes.f kj11 a2).bind fun t169 => (plaitlaw02_EpochTells.j3 kj11 a2 t153 t161 t162 (t163.toList != t169.toList))) else (plaitlaw02_EpochTells.j3 kj11 a2 t153 t161 t162 true)) else (plaitlaw02_EpochTells.j3 kj11 a2 t153 t161 t162 true)) else (plaitlaw02_EpochTells.j3 kj11 a2 t153 t161 t162 true)) else (plaitlaw02_EpochTells.j3 kj11 a2 t153 t161 t162 true))) = some r := by rw [if_pos rfl] at H; exact H
          clear H
          have H := H1
          clear H1
          replace H := Option.bind_eq_some_iff.mp H
          obtain ⟨⟨t167, t168⟩, A310, H⟩ := H
          replace H : (if t160 = 0 then (if t164 = 0 then (if t158 = t167 then (if t159 = t168 then ((plaitref02_Bytes.f kj11 a2).bind fun t169 => (plaitlaw02_EpochTells.j3 kj11 a2 t153 t161 t162 (t163.toList != t169.toList))) else (plaitlaw02_EpochTells.j3 kj11 a2 t153 t161 t162 true)) else (plaitlaw02_EpochTells.j3 kj11 a2 t153 t161 t162 true)) else (plaitlaw02_EpochTells.j3 kj11 a2 t153 t161 t162 true)) else (plaitlaw02_EpochTells.j3 kj11 a2 t153 t161 t162 true)) = some r := H
          have A31 := Aside0.mk A310
          clear A310
          have HC32 := Aside0.mk H
          clear H
          go_upto_region 19 with (first | ((with_reducible refine gate_callee (f := 47) rfl ?_); refine goesL_ (some 85) rfl rfl Try.func47 (by kernel_rfl) rfl #[.int .i64 a2] rfl (by (try simp only [List.map_toArray, List.map_cons, List.map_nil]); first | done | rfl | (simp only [List.length_drop, List.length_take]; rfl)) ?_; (with_reducible refine (plaitref02_Epoch.calls a2 true _ A29.out).mono ?_); rintro e w' ⟨rfl, ⟨nd, rfl⟩⟩; refine ⟨_, rfl, ?_⟩) | ((with_reducible refine gate_callee (f := 48) rfl ?_); refine goesL_ (some 115) rfl rfl Try.func48 (by kernel_rfl) rfl #[.int .i64 a2] rfl (by (try simp only [List.map_toArray, List.map_cons, List.map_nil]); first | done | rfl | (simp only [List.length_drop, List.length_take]; rfl)) ?_; (with_reducible refine (plaitref02_Unpack.calls a2 t167 t168 _ A31.out).mono ?_); rintro e w' ⟨rfl, ⟨nd, rfl⟩⟩; refine ⟨_, rfl, ?_⟩))
          (try simp only [Act.put, List.setIfInBounds_toArray, List.set_cons_zero, List.set_cons_succ])
          go_cut [139] (fun v139 wc => ∃ (kq : Nat) (x139_31 : Bool), v139 = .bool x139_31 ∧ Aside0 (plaitlaw02_EpochTells.j3 kq a2 t153 t161 t162 x139_31 = some r) ∧ Aside0 (kq ≤ kj11) ∧ Aside0 (Kd.V (Kd.int .i64) 3 wc w.heap.size (fun _ => True) (.slice Ao14 t153.length co14) t153) ∧ Aside0 (Below w.heap.size w wc))
          case first =>
            have H := HC32.out
            clear HC32
            by_cases c33 : t160 = 0
            · rw [if_pos c33] at H
              have c33b0 : (t160 == 0) = true := beq_iff_eq.mpr c33
              have c33b1 : (t160 != 0) = false := bne_eq_false_iff_eq.mpr c33
              clear c33
              (first | rw [c33b0] | (simp only [i64_w, i32_w]; rw [c33b0]) | skip)
              by_cases c34 : t164 = 0
              · rw [if_pos c34] at H
                have c34b0 : (t164 == 0) = true := beq_iff_eq.mpr c34
                have c34b1 : (t164 != 0) = false := bne_eq_false_iff_eq.mpr c34
                clear c34
                by_cases c35 : t158 = t167
                · rw [if_pos c35] at H
                  have c35b0 : (t158 == t167) = true := beq_iff_eq.mpr c35
                  have c35b1 : (t158 != t167) = false := bne_eq_false_iff_eq.mpr c35
                  clear c35
                  by_cases c36 : t159 = t168
                  · rw [if_pos c36] at H
                    have c36b0 : (t159 == t168) = true := beq_iff_eq.mpr c36
                    have c36b1 : (t159 != t168) = false := bne_eq_false_iff_eq.mpr c36
                    clear c36
                    replace H := Option.bind_eq_some_iff.mp H
                    obtain ⟨t169, A370, H⟩ := H
                    replace H : (plaitlaw02_EpochTells.j3 kj11 a2 t153 t161 t162 (t163.toList != t169.toList)) = some r := H
                    have A37 := Aside0.mk A370
                    clear A370
                    have H' := Aside0.mk H
                    clear H
                    go_wp2_with (first | (go_at_call 49; (with_reducible refine (plaitref02_Bytes.calls kj11 a2 t169 _ A37.out).mono ?_); rintro e w38 ⟨rfl, hb⟩; have n0_ := Aside0.mk (Kd.V_below (by (with_reducible repeat (first | apply Kd.V_alloc | apply Kd.V_drewN | apply Kd.V_drew)); exact HO_3.out) hb); have n1_ := Aside0.mk (below_step (by repeat (first | (with_reducible first | exact HB.out | apply below_alloc | apply pw_below_drewN | apply below_drew1) | exact HB.out)) hb); clear HO_3; clear HB; have HO_3 := n0_; have HB := n1_; clear n0_ n1_; (try clear hb); (try clear hb2); (try clear hk); (try clear hi)))
                    go_meet
                    case rel => exact ⟨_, ((t163.toList != t169.toList)), (by first | rfl | (simp; done) | (simp [*]; done)), H', ⟨by have := HJ11.out; first | omega | exact Nat.le_refl _⟩, ⟨by (with_reducible repeat (first | apply Kd.V_alloc | apply Kd.V_drewN | apply Kd.V_drew)); exact HO_3.out⟩, ⟨by repeat (first | (with_reducible first | exact HB.out | apply below_alloc | apply pw_below_drewN | apply below_drew1) | exact HB.out)⟩⟩
                  · rw [if_neg c36] at H
                    have c36b0 : (t159 == t168) = false := beq_eq_false_iff_ne.mpr c36
                    have c36b1 : (t159 != t168) = true := bne_iff_ne.mpr c36
                    have H' := Aside0.mk H
                    clear H
                    go_wp2
                    go_meet
                    case rel => exact ⟨_, (true), (by first | rfl | (simp; done) | (simp [*]; done)), H', ⟨by have := HJ11.out; first | omega | exact Nat.le_refl _⟩, ⟨by (with_reducible repeat (first | apply Kd.V_alloc | apply Kd.V_drewN | apply Kd.V_drew)); exact HO_3.out⟩, ⟨by repeat (first | (with_reducible first | exact HB.out | apply below_alloc | apply pw_below_drewN | apply below_drew1) | exact HB.out)⟩⟩
                · rw [if_neg c35] at H
                  have c35b0 : (t158 == t167) = false := beq_eq_false_iff_ne.mpr c35
                  have c35b1 : (t158 != t167) = true := bne_iff_ne.mpr c35
                  have H' := Aside0.mk H
                  clear H
                  go_wp2
                  go_meet
                  case rel => exact ⟨_, (true), (by first | rfl | (simp; done) | (simp [*]; done)), H', ⟨by have := HJ11.out; first | omega | exact Nat.le_refl _⟩, ⟨by (with_reducible repeat (first | apply Kd.V_alloc | apply Kd.V_drewN | apply Kd.V_drew)); exact HO_3.out⟩, ⟨by repeat (first | (with_reducible first | exact HB.out | apply below_alloc | apply pw_below_drewN | apply below_drew1) | exact HB.out)⟩⟩
              · rw [if_neg c34] at H
                have c34b0 : (t164 == 0) = false := beq_eq_false_iff_ne.mpr c34
                have c34b1 : (t164 != 0) = true := bne_iff_ne.mpr c34
                have H' := Aside0.mk H
                clear H
                go_wp2
                go_meet
                case rel => exact ⟨_, (true), (by first | rfl | (simp; done) | (simp [*]; done)), H', ⟨by have := HJ11.out; first | omega | exact Nat.le_refl _⟩, ⟨by (with_reducible repeat (first | apply Kd.V_alloc | apply Kd.V_drewN | apply Kd.V_drew)); exact HO_3.out⟩, ⟨by repeat (first | (with_reducible first | exact HB.out | apply below_alloc | apply pw_below_drewN | apply below_drew1) | exact HB.out)⟩⟩
            · rw [if_neg c33] at H
              have c33b0 : (t160 == 0) = false := beq_eq_false_iff_ne.mpr c33
              have c33b1 : (t160 != 0) = true := bne_iff_ne.mpr c33
              (first | rw [c33b0] | (simp only [i64_w, i32_w]; rw [c33b0]) | skip)
              have H' := Aside0.mk H
              clear H
              go_wp2
              go_meet
              case rel => exact ⟨_, (true), (by first | rfl | (simp; done) | (simp [*]; done)), H', ⟨by have := HJ11.out; first | omega | exact Nat.le_refl _⟩, ⟨by (with_reducible repeat (first | apply Kd.V_alloc | apply Kd.V_drewN | apply Kd.V_drew)); exact HO_3.out⟩, ⟨by repeat (first | (with_reducible first | exact HB.out | apply below_alloc | apply pw_below_drewN | apply below_drew1) | exact HB.out)⟩⟩
          case rest =>
            clear HC32
            try clear c1
            try clear c2
            try clear p2
            try clear c3
            try clear c4
            try clear p6
            try clear c11
            try clear c18
            try clear c18b0
            try clear c19
            try clear c20
            try clear c20b0
            try clear c20b1
            try clear c21
            try clear c21b0
            try clear c21b1
            try clear c22
            try clear c23
            try clear c23b0
            try clear c24
            try clear c25
            try clear c25b0
            try clear c25b1
            try clear c26
            try clear c26b0
            try clear c26b1
            try clear c27
            try clear c27b0
            try clear c27b1
            try clear c28
            try clear c28b0
            try clear c28b1
            try clear c30
            try clear c33
            try clear c33b0
            try clear c33b1
            try clear c34
            try clear c34b0
            try clear c34b1
            try clear c35
            try clear c35b0
            try clear c35b1
            try clear c36
            try clear c36b0
            try clear c36b1
            try clear p2
            try clear p6
            obtain ⟨kq, x139_31, rfl, HA, HJ31, HO_3, HB⟩ := hcut
            cases kq with
            | zero => exact absurd HA.out (by simp [plaitlaw02_EpochTells.j3])
            | succ kj31 =>
              have H := HA.out
              clear HA
              simp only [plaitlaw02_EpochTells.j3] at H
              by_cases c39 : x139_31 = true
              · subst c39
                have H1 : (some false) = some r := by rw [if_pos rfl] at H; exact H
                clear H
                have H := H1
                clear H1
                exact absurd (Option.some.inj H) (by rw [hr_.out]; decide)
              · replace c39 := Bool.eq_false_iff.mpr c39
                subst c39
                have H1 : ((plaitref01_Right.f kj31 t153).bind fun t170 => (if t170 = true then (if t162 = 0 then ((plaitref02_Known.f a2 t153).bind fun t171 => (some (t161 == t171))) else (some false)) else (if t162 = 1 then (some (!t161)) else (some false)))) = some r := by rw [if_neg (show ¬ (false = true) by decide)] at H; exact H
                clear H
                have H := H1
                clear H1
                replace H := Option.bind_eq_some_iff.mp H
                obtain ⟨t170, A400, H⟩ := H
                replace H : (if t170 = true then (if t162 = 0 then ((plaitref02_Known.f a2 t153).bind fun t171 => (some (t161 == t171))) else (some false)) else (if t162 = 1 then (some (!t161)) else (some false))) = some r := H
                have A40 := Aside0.mk A400
                clear A400
                by_cases c41 : t170 = true
                · subst c41
                  have H1 : (if t162 = 0 then ((plaitref02_Known.f a2 t153).bind fun t171 => (some (t161 == t171))) else (some false)) = some r := by rw [if_pos rfl] at H; exact H
                  clear H
                  have H := H1
                  clear H1
                  by_cases c42 : t162 = 0
                  · rw [if_pos c42] at H
                    have c42b0 : (t162 == 0) = true := beq_iff_eq.mpr c42
                    have c42b1 : (t162 != 0) = false := bne_eq_false_iff_eq.mpr c42
                    clear c42
                    replace H := Option.bind_eq_some_iff.mp H
                    obtain ⟨t171, A430, H⟩ := H
                    replace H : (some (t161 == t171)) = some r := H
                    have A43 := Aside0.mk A430
                    clear A430
                    obtain rfl := Option.some.inj H
                    go_wp2_with (first | ((with_reducible refine gate_callee (f := 50) rfl ?_); refine goesL_ (some 141) rfl rfl Try.func50 (by kernel_rfl) rfl #[.slice Ao14 t153.length co14] rfl (by (try simp only [List.map_toArray, List.map_cons, List.map_nil]); first | done | rfl | (simp only [List.length_drop, List.length_take]; rfl)) ?_; (with_reducible refine (plaitref01_Right.calls kj31 _ _ t153 true _ ?side1 ?side2 A40.out).mono ?_); (case side1 => repeat (first | exact (Kd.V_reads' HO_3.out).2.2 | (with_reducible refine Kd.C_alloc ?_ _) | (with_reducible refine Kd.C_drewN ?_ _) | (with_reducible refine Kd.C_drew ?_))); (case side2 => exact (Kd.V_reads' HO_3.out).2.1); rintro e w' ⟨rfl, ⟨nd, rfl⟩⟩; refine ⟨_, rfl, ?_⟩) | (go_at_call 51; (with_reducible refine (plaitref02_Known.calls a2 _ _ t153 t171 _ ?side1 ?side2 A43.out).mono ?_); (case side1 => repeat (first | exact (Kd.V_reads' HO_3.out).2.2 | (with_reducible refine Kd.C_alloc ?_ _) | (with_reducible refine Kd.C_drewN ?_ _) | (with_reducible refine Kd.C_drew ?_))); (case side2 => exact (Kd.V_reads' HO_3.out).2.1); rintro e w' ⟨rfl, ⟨nd, rfl⟩⟩))
                    go_ret
                    exact ⟨by first | rfl | (simp [errW_none, errW_some] <;> rfl) | (simp [*, errW_none, errW_some] <;> rfl), by repeat (first | (with_reducible first | exact HB.out | apply below_alloc | apply pw_below_drewN | apply below_drew1) | exact HB.out)⟩
                  · rw [if_neg c42] at H
                    have c42b0 : (t162 == 0) = false := beq_eq_false_iff_ne.mpr c42
                    have c42b1 : (t162 != 0) = true := bne_iff_ne.mpr c42
                    exact absurd (Option.some.inj H) (by rw [hr_.out]; decide)
                · replace c41 := Bool.eq_false_iff.mpr c41
                  subst c41
                  have H1 : (if t162 = 1 then (some (!t161)) else (some false)) = some r := by rw [if_neg (show ¬ (false = true) by decide)] at H; exact H
                  clear H
                  have H := H1
                  clear H1
                  by_cases c44 : t162 = 1
                  · rw [if_pos c44] at H
                    have c44b0 : (t162 == 1) = true := beq_iff_eq.mpr c44
                    have c44b1 : (t162 != 1) = false := bne_eq_false_iff_eq.mpr c44
                    clear c44
                    obtain rfl := Option.some.inj H
                    go_wp2_with (first | ((with_reducible refine gate_callee (f := 50) rfl ?_); refine goesL_ (some 141) rfl rfl Try.func50 (by kernel_rfl) rfl #[.slice Ao14 t153.length co14] rfl (by (try simp only [List.map_toArray, List.map_cons, List.map_nil]); first | done | rfl | (simp only [List.length_drop, List.length_take]; rfl)) ?_; (with_reducible refine (plaitref01_Right.calls kj31 _ _ t153 false _ ?side1 ?side2 A40.out).mono ?_); (case side1 => repeat (first | exact (Kd.V_reads' HO_3.out).2.2 | (with_reducible refine Kd.C_alloc ?_ _) | (with_reducible refine Kd.C_drewN ?_ _) | (with_reducible refine Kd.C_drew ?_))); (case side2 => exact (Kd.V_reads' HO_3.out).2.1); rintro e w' ⟨rfl, ⟨nd, rfl⟩⟩; refine ⟨_, rfl, ?_⟩))
                    go_ret
                    exact ⟨by first | rfl | (simp [errW_none, errW_some] <;> rfl) | (simp [*, errW_none, errW_some] <;> rfl), by repeat (first | (with_reducible first | exact HB.out | apply below_alloc | apply pw_below_drewN | apply below_drew1) | exact HB.out)⟩
                  · rw [if_neg c44] at H
                    have c44b0 : (t162 == 1) = false := beq_eq_false_iff_ne.mpr c44
                    have c44b1 : (t162 != 1) = true := bne_iff_ne.mpr c44
                    exact absurd (Option.some.inj H) (by rw [hr_.out]; decide)
        · replace c30 := Bool.eq_false_iff.mpr c30
          subst c30
          have H1 : (if t160 = 1 then (if t162 = 1 then (if t164 = 1 then (if t158 = 0 then (if t159 = 0 then (if t161 = true then (some false) else (some (t163.toList == ([] : List UInt8)))) else (some false)) else (some false)) else (some false)) else (some false)) else (some false)) = some r := by rw [if_neg (show ¬ (false = true) by decide)] at H; exact H
          clear H
          have H := H1
          clear H1
          by_cases c45 : t160 = 1
          · rw [if_pos c45] at H
            have c45b0 : (t160 == 1) = true := beq_iff_eq.mpr c45
            have c45b1 : (t160 != 1) = false := bne_eq_false_iff_eq.mpr c45
            clear c45
            by_cases c46 : t162 = 1
            · rw [if_pos c46] at H
              have c46b0 : (t162 == 1) = true := beq_iff_eq.mpr c46
              have c46b1 : (t162 != 1) = false := bne_eq_false_iff_eq.mpr c46
              clear c46
              by_cases c47 : t164 = 1
              · rw [if_pos c47] at H
                have c47b0 : (t164 == 1) = true := beq_iff_eq.mpr c47
                have c47b1 : (t164 != 1) = false := bne_eq_false_iff_eq.mpr c47
                clear c47
                by_cases c48 : t158 = 0
                · rw [if_pos c48] at H
                  have c48b0 : (t158 == 0) = true := beq_iff_eq.mpr c48
                  have c48b1 : (t158 != 0) = false := bne_eq_false_iff_eq.mpr c48
                  clear c48
                  by_cases c49 : t159 = 0
                  · rw [if_pos c49] at H
                    have c49b0 : (t159 == 0) = true := beq_iff_eq.mpr c49
                    have c49b1 : (t159 != 0) = false := bne_eq_false_iff_eq.mpr c49
                    clear c49
                    by_cases c50 : t161 = true
                    · subst c50
                      have H1 : (some false) = some r := by rw [if_pos rfl] at H; exact H
                      clear H
                      have H := H1
                      clear H1
                      exact absurd (Option.some.inj H) (by rw [hr_.out]; decide)
                    · replace c50 := Bool.eq_false_iff.mpr c50
                      subst c50
                      have H1 : (some (t163.toList == ([] : List UInt8))) = some r := by rw [if_neg (show ¬ (false = true) by decide)] at H; exact H
                      clear H
                      have H := H1
                      clear H1
                      obtain rfl := Option.some.inj H
                      go_wp2_with (first | ((with_reducible refine gate_callee (f := 47) rfl ?_); refine goesL_ (some 85) rfl rfl Try.func47 (by kernel_rfl) rfl #[.int .i64 a2] rfl (by (try simp only [List.map_toArray, List.map_cons, List.map_nil]); first | done | rfl | (simp only [List.length_drop, List.length_take]; rfl)) ?_; (with_reducible refine (plaitref02_Epoch.calls a2 false _ A29.out).mono ?_); rintro e w' ⟨rfl, ⟨nd, rfl⟩⟩; refine ⟨_, rfl, ?_⟩))
                      go_ret
                      exact ⟨by first | rfl | (simp [errW_none, errW_some] <;> rfl) | (simp [*, errW_none, errW_some] <;> rfl), by repeat (first | (with_reducible first | exact HB.out | apply below_alloc | apply pw_below_drewN | apply below_drew1) | exact HB.out)⟩
                  · rw [if_neg c49] at H
                    have c49b0 : (t159 == 0) = false := beq_eq_false_iff_ne.mpr c49
                    have c49b1 : (t159 != 0) = true := bne_iff_ne.mpr c49
                    exact absurd (Option.some.inj H) (by rw [hr_.out]; decide)
                · rw [if_neg c48] at H
                  have c48b0 : (t158 == 0) = false := beq_eq_false_iff_ne.mpr c48
                  have c48b1 : (t158 != 0) = true := bne_iff_ne.mpr c48
                  exact absurd (Option.some.inj H) (by rw [hr_.out]; decide)
              · rw [if_neg c47] at H
                have c47b0 : (t164 == 1) = false := beq_eq_false_iff_ne.mpr c47
                have c47b1 : (t164 != 1) = true := bne_iff_ne.mpr c47
                exact absurd (Option.some.inj H) (by rw [hr_.out]; decide)
            · rw [if_neg c46] at H
              have c46b0 : (t162 == 1) = false := beq_eq_false_iff_ne.mpr c46
              have c46b1 : (t162 != 1) = true := bne_iff_ne.mpr c46
              exact absurd (Option.some.inj H) (by rw [hr_.out]; decide)
          · rw [if_neg c45] at H
            have c45b0 : (t160 == 1) = false := beq_eq_false_iff_ne.mpr c45
            have c45b1 : (t160 != 1) = true := bne_iff_ne.mpr c45
            exact absurd (Option.some.inj H) (by rw [hr_.out]; decide)
  · replace c11 := Bool.eq_false_iff.mpr c11
    subst c11
    have H1 : (some false) = some r := by rw [if_neg (show ¬ (false = true) by decide)] at H; exact H
    clear H
    have H := H1
    clear H1
    exact absurd (Option.some.inj H) (by rw [hr_.out]; decide)

/-- THE ONE PURE STATEMENT of plaitlaw02_EpochTells: yours. -/
def plaitlaw02_EpochTells.Pure : Prop := ∀ (a0 : Int) (a1 : Int) (a2 : Int) (l3 : List Int), (Lit.int .i64 a0).wf = true → (Lit.int .i64 a1).wf = true → (Lit.int .i64 a2).wf = true → l3.length ≤ maxLen → l3.length * 8 ≤ 140737488351232 → (∀ x ∈ l3, (Lit.int .i64 x).wf = true) → ∃ k, plaitlaw02_EpochTells.f k a0 a1 a2 l3 = some true
theorem plaitlaw02_EpochTells.walk (P : plaitlaw02_EpochTells.Pure) (a0 : Int) (a1 : Int) (a2 : Int) (a3 : Option Addr) (len3 cap3 : Nat) (z3 : List Int) (w : World) (w0 : (Lit.int .i64 a0).wf = true) (w1 : (Lit.int .i64 a1).wf = true) (w2 : (Lit.int .i64 a2).wf = true) (w3 : (a3 = none ∧ len3 = 0 ∧ cap3 = 0 ∧ z3 = []) ∨ ∃ x, a3 = some x ∧ len3 ≤ cap3 ∧ cap3 ≤ maxLen ∧ z3.length = cap3 ∧ (∀ i, i < z3.length → w.cell? (x.add i) = some (.int .i64 (z3.getD i 0))) ∧ ∀ n ∈ z3, (Lit.int .i64 n).wf = true) (y3 : len3 * 8 ≤ 140737488351232) :
    Calls Try.prog 11 #[.int .i64 a0, .int .i64 a1, .int .i64 a2, .slice a3 len3 cap3] w fun e w' => e = .returned (.bool true) ∧ Below w.heap.size w w' := by
  obtain ⟨l3, rfl, hr3, hm3, hw3, hc3⟩ := ReadsInt.ofRowC w3
  obtain ⟨k, h⟩ := P a0 a1 a2 l3 w0 w1 w2 hm3 y3 hw3
  refine (plaitlaw02_EpochTells.calls k a0 a1 a2 _ _ l3 true w (Kd.C_of_reads (d := (0 : Int)) (h1 := fun _ => rfl) hr3) hc3 h ⟨rfl⟩).mono ?_
  rintro e w' ⟨rfl, hd⟩
  exact ⟨rfl, hd⟩

end Go.Proofs.Ytipmoncamnafbaa.X
