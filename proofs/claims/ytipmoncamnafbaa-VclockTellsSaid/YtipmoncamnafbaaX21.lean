/- Contracts of functions, and walks of laws, written by this session's own program (wip/tools/xprint.py, a driver round the kit's print) out of Lean's print of the loaded program. Lean checks them. -/
import Derived.Test.YtipmoncamnafbaaX0
import Derived.Test.YtipmoncamnafbaaX4
import Derived.Test.YtipmoncamnafbaaX13
import Derived.Test.YtipmoncamnafbaaX17
import Derived.Test.YtipmoncamnafbaaX20
import Derived.Test.YtipmoncamnafbaaGiven
namespace Go.Proofs.Ytipmoncamnafbaa.X
open Go.RowKit Go.Proofs.YtipmoncamnafbaaW.PrintWords Go.Proofs.YtipmoncamnafbaaW.PrintLast Go.Proofs.YtipmoncamnafbaaW.PrintMore
attribute [local go_sem] max2_int min2_int max_two min_two max_three min_three max_four min_four   -- for this text's walks alone
set_option linter.unusedVariables false
set_option linter.unusedSimpArgs false

/-! ### plaitlaw01_VclockTells: function 14 -/
mutual
def plaitlaw01_VclockTells.j0 : Nat → List Int → List Int → Int → Int → Int → List Int → Int → List Int → Int → Bool → Int → List Int → Int → Bool → Option (Bool)
  | 0, _, _, _, _, _, _, _, _, _, _, _, _, _, _ => none
  | k + 1, x0, x1, x2, x7, x8, x9, x10, x11, x12, x13, x14, x15, x16, x58 => if x58 = true then (some false) else ((plaitref01_Right.f k x0).bind fun t528 => (if t528 = true then ((plaitref01_Right.f k x1).bind fun t529 => (plaitlaw01_VclockTells.j1 k x0 x1 x2 x7 x8 x9 x10 x11 x12 x13 x14 x15 x16 (!t529))) else (plaitlaw01_VclockTells.j1 k x0 x1 x2 x7 x8 x9 x10 x11 x12 x13 x14 x15 x16 true)))
def plaitlaw01_VclockTells.j1 : Nat → List Int → List Int → Int → Int → Int → List Int → Int → List Int → Int → Bool → Int → List Int → Int → Bool → Option (Bool)
  | 0, _, _, _, _, _, _, _, _, _, _, _, _, _, _ => none
  | k + 1, x0, x1, x2, x7, x8, x9, x10, x11, x12, x13, x14, x15, x16, x66 => if x66 = true then (if x12 = 1 then (if x14 = 1 then (if (x11.length : Int) = 0 then (if x13 = true then (some false) else (plaitlaw01_VclockTells.j2 k x0 x2 x7 x8 x9 x10 x15 x16)) else (some false)) else (some false)) else (some false)) else (if x12 = 0 then (if x14 = 0 then ((plaitref01_Join.f k x0 x1).bind fun t530 => ((plaitref01_Rows.f k x11 t530).bind fun t533 => (if t533 = true then ((plaitref01_Leq.f k x0 x1).bind fun t534 => (if (x13 != t534) = true then (some false) else (plaitlaw01_VclockTells.j2 k x0 x2 x7 x8 x9 x10 x15 x16))) else (some false)))) else (some false)) else (some false))
def plaitlaw01_VclockTells.j2 : Nat → List Int → Int → Int → Int → List Int → Int → List Int → Int → Option (Bool)
  | 0, _, _, _, _, _, _, _, _ => none
  | k + 1, x0, x2, x7, x8, x9, x10, x15, x16 => (plaitref01_Right.f k x0).bind fun t535 => (if t535 = true then (if x16 = 0 then ((plaitref01_Trim.f x0).bind fun t536 => ((plaitref01_Rows.f k x15 t536).bind fun t539 => (plaitlaw01_VclockTells.j3 k x0 x2 x7 x8 x9 x10 (!t539)))) else (plaitlaw01_VclockTells.j3 k x0 x2 x7 x8 x9 x10 true)) else (if x8 = 1 then (if x10 = 1 then (if x16 = 1 then (if x7 = 0 then (if (x9.length : Int) = 0 then (some ((x15.length : Int) == 0)) else (some false)) else (some false)) else (some false)) else (some false)) else (some false)))
def plaitlaw01_VclockTells.j3 : Nat → List Int → Int → Int → Int → List Int → Int → Bool → Option (Bool)
  | 0, _, _, _, _, _, _, _ => none
  | k + 1, x0, x2, x7, x8, x9, x10, x137 => if x137 = true then (some false) else (if x2 < 0 then (plaitlaw01_VclockTells.j4 k x0 x2 x7 x8 x9 x10 true) else (plaitlaw01_VclockTells.j4 k x0 x2 x7 x8 x9 x10 (decide (x2 > 15))))
def plaitlaw01_VclockTells.j4 : Nat → List Int → Int → Int → Int → List Int → Int → Bool → Option (Bool)
  | 0, _, _, _, _, _, _, _ => none
  | k + 1, x0, x2, x7, x8, x9, x10, x143 => if x143 = true then (if x8 = 3 then (if x10 = 3 then (if x7 = 0 then (some ((x9.length : Int) == 0)) else (some false)) else (some false)) else (some false)) else (if x8 = 0 then ((plaitref01_At.f x0 x2).bind fun t540 => (plaitlaw01_VclockTells.j5 k x0 x2 x7 x9 x10 (x7 != t540))) else (plaitlaw01_VclockTells.j5 k x0 x2 x7 x9 x10 true))
def plaitlaw01_VclockTells.j5 : Nat → List Int → Int → Int → List Int → Int → Bool → Option (Bool)
  | 0, _, _, _, _, _, _ => none
  | k + 1, x0, x2, x7, x9, x10, x167 => if x167 = true then (some false) else (if x7 = 1099511627776 then (if x10 = 8 then (some ((x9.length : Int) == 0)) else (some false)) else (if x10 = 0 then ((plaitref01_Tick.f k x0 x2).bind fun t541 => ((plaitref01_Rows.f k x9 t541).bind fun t544 => (some t544))) else (some false)))
end
def plaitlaw01_VclockTells.f (k : Nat) (l0 : List Int) (l1 : List Int) (a2 : Int) : Option (Bool) := (plaitlaw01_few.f l0).bind fun t503 => ((plaitlaw01_few.f l1).bind fun t506 => ((vclock_At.f t503 a2).bind fun bt509 => ((vclock_Tick.f t503 a2).bind fun bt511 => ((vclock_Join.f t503 t506).bind fun bt515 => ((vclock_Leq.f t503 t506).bind fun bt519 => ((vclock_Trim.f t503).bind fun bt521 => ((vclock_Right.f t503).bind fun t525 => ((plaitref01_Right.f k t503).bind fun t526 => (if (t525 != t526) = true then (plaitlaw01_VclockTells.j0 k t503 t506 a2 bt509.1 bt509.2 bt511.1 bt511.2 bt515.1 bt515.2 bt519.1 bt519.2 bt521.1 bt521.2 true) else ((plaitlaw01_alive.f k).bind fun t527 => (plaitlaw01_VclockTells.j0 k t503 t506 a2 bt509.1 bt509.2 bt511.1 bt511.2 bt515.1 bt515.2 bt519.1 bt519.2 bt521.1 bt521.2 (!t527))))))))))))
theorem plaitlaw01_VclockTells.mono_l : ∀ k, (∀ y0 y1 y2 y3 y4 y5 y6 y7 y8 y9 y10 y11 y12 y13, LeO (plaitlaw01_VclockTells.j0 k y0 y1 y2 y3 y4 y5 y6 y7 y8 y9 y10 y11 y12 y13) (plaitlaw01_VclockTells.j0 (k + 1) y0 y1 y2 y3 y4 y5 y6 y7 y8 y9 y10 y11 y12 y13)) ∧ (∀ y0 y1 y2 y3 y4 y5 y6 y7 y8 y9 y10 y11 y12 y13, LeO (plaitlaw01_VclockTells.j1 k y0 y1 y2 y3 y4 y5 y6 y7 y8 y9 y10 y11 y12 y13) (plaitlaw01_VclockTells.j1 (k + 1) y0 y1 y2 y3 y4 y5 y6 y7 y8 y9 y10 y11 y12 y13)) ∧ (∀ y0 y1 y2 y3 y4 y5 y6 y7, LeO (plaitlaw01_VclockTells.j2 k y0 y1 y2 y3 y4 y5 y6 y7) (plaitlaw01_VclockTells.j2 (k + 1) y0 y1 y2 y3 y4 y5 y6 y7)) ∧ (∀ y0 y1 y2 y3 y4 y5 y6, LeO (plaitlaw01_VclockTells.j3 k y0 y1 y2 y3 y4 y5 y6) (plaitlaw01_VclockTells.j3 (k + 1) y0 y1 y2 y3 y4 y5 y6)) ∧ (∀ y0 y1 y2 y3 y4 y5 y6, LeO (plaitlaw01_VclockTells.j4 k y0 y1 y2 y3 y4 y5 y6) (plaitlaw01_VclockTells.j4 (k + 1) y0 y1 y2 y3 y4 y5 y6)) ∧ (∀ y0 y1 y2 y3 y4 y5, LeO (plaitlaw01_VclockTells.j5 k y0 y1 y2 y3 y4 y5) (plaitlaw01_VclockTells.j5 (k + 1) y0 y1 y2 y3 y4 y5))
  | 0 => ⟨fun _ _ _ _ _ _ _ _ _ _ _ _ _ _ r h => by simp [plaitlaw01_VclockTells.j0] at h, fun _ _ _ _ _ _ _ _ _ _ _ _ _ _ r h => by simp [plaitlaw01_VclockTells.j1] at h, fun _ _ _ _ _ _ _ _ r h => by simp [plaitlaw01_VclockTells.j2] at h, fun _ _ _ _ _ _ _ r h => by simp [plaitlaw01_VclockTells.j3] at h, fun _ _ _ _ _ _ _ r h => by simp [plaitlaw01_VclockTells.j4] at h, fun _ _ _ _ _ _ r h => by simp [plaitlaw01_VclockTells.j5] at h⟩
  | k + 1 => by
    obtain ⟨ih0, ih1, ih2, ih3, ih4, ih5⟩ := plaitlaw01_VclockTells.mono_l k
    refine ⟨?_, ?_, ?_, ?_, ?_, ?_⟩
    · intro y0 y1 y2 y3 y4 y5 y6 y7 y8 y9 y10 y11 y12 y13
      unfold plaitlaw01_VclockTells.j0
      repeat' first
      | (with_reducible exact ih0 _ _ _ _ _ _ _ _ _ _ _ _ _ _)
      | (with_reducible exact ih1 _ _ _ _ _ _ _ _ _ _ _ _ _ _)
      | (with_reducible exact ih2 _ _ _ _ _ _ _ _)
      | (with_reducible exact ih3 _ _ _ _ _ _ _)
      | (with_reducible exact ih4 _ _ _ _ _ _ _)
      | (with_reducible exact ih5 _ _ _ _ _ _)
      | (with_reducible exact plaitlaw01_alive.mono _)
      | (with_reducible exact plaitref01_Join.mono _ _ _)
      | (with_reducible exact plaitref01_Leq.mono _ _ _)
      | (with_reducible exact plaitref01_Right.mono _ _)
      | (with_reducible exact plaitref01_Rows.mono _ _ _)
      | (with_reducible exact plaitref01_Tick.mono _ _ _)
      | (with_reducible exact LeO.refl _)
      | (with_reducible exact LeO.none _)
      | (with_reducible refine LeO.ite ?_ ?_)
      | (with_reducible refine LeO.bind ?_ (fun _ => ?_))
      | exact ih0 _ _ _ _ _ _ _ _ _ _ _ _ _ _
      | exact ih1 _ _ _ _ _ _ _ _ _ _ _ _ _ _
      | exact ih2 _ _ _ _ _ _ _ _
      | exact ih3 _ _ _ _ _ _ _
      | exact ih4 _ _ _ _ _ _ _
      | exact ih5 _ _ _ _ _ _
      | exact plaitlaw01_alive.mono _
      | exact plaitref01_Join.mono _ _ _
      | exact plaitref01_Leq.mono _ _ _
      | exact plaitref01_Right.mono _ _
      | exact plaitref01_Rows.mono _ _ _
      | exact plaitref01_Tick.mono _ _ _
      | exact LeO.none _
      | refine LeO.ite ?_ ?_
      | refine LeO.bind ?_ (fun _ => ?_)
    · intro y0 y1 y2 y3 y4 y5 y6 y7 y8 y9 y10 y11 y12 y13
      unfold plaitlaw01_VclockTells.j1
      repeat' first
      | (with_reducible exact ih0 _ _ _ _ _ _ _ _ _ _ _ _ _ _)
      | (with_reducible exact ih1 _ _ _ _ _ _ _ _ _ _ _ _ _ _)
      | (with_reducible exact ih2 _ _ _ _ _ _ _ _)
      | (with_reducible exact ih3 _ _ _ _ _ _ _)
      | (with_reducible exact ih4 _ _ _ _ _ _ _)
      | (with_reducible exact ih5 _ _ _ _ _ _)
      | (with_reducible exact plaitlaw01_alive.mono _)
      | (with_reducible exact plaitref01_Join.mono _ _ _)
      | (with_reducible exact plaitref01_Leq.mono _ _ _)
      | (with_reducible exact plaitref01_Right.mono _ _)
      | (with_reducible exact plaitref01_Rows.mono _ _ _)
      | (with_reducible exact plaitref01_Tick.mono _ _ _)
      | (with_reducible exact LeO.refl _)
      | (with_reducible exact LeO.none _)
      | (with_reducible refine LeO.ite ?_ ?_)
      | (with_reducible refine LeO.bind ?_ (fun _ => ?_))
      | exact ih0 _ _ _ _ _ _ _ _ _ _ _ _ _ _
      | exact ih1 _ _ _ _ _ _ _ _ _ _ _ _ _ _
      | exact ih2 _ _ _ _ _ _ _ _
      | exact ih3 _ _ _ _ _ _ _
      | exact ih4 _ _ _ _ _ _ _
      | exact ih5 _ _ _ _ _ _
      | exact plaitlaw01_alive.mono _
      | exact plaitref01_Join.mono _ _ _
      | exact plaitref01_Leq.mono _ _ _
      | exact plaitref01_Right.mono _ _
      | exact plaitref01_Rows.mono _ _ _
      | exact plaitref01_Tick.mono _ _ _
      | exact LeO.none _
      | refine LeO.ite ?_ ?_
      | refine LeO.bind ?_ (fun _ => ?_)
    · intro y0 y1 y2 y3 y4 y5 y6 y7
      unfold plaitlaw01_VclockTells.j2
      repeat' first
      | (with_reducible exact ih0 _ _ _ _ _ _ _ _ _ _ _ _ _ _)
      | (with_reducible exact ih1 _ _ _ _ _ _ _ _ _ _ _ _ _ _)
      | (with_reducible exact ih2 _ _ _ _ _ _ _ _)
      | (with_reducible exact ih3 _ _ _ _ _ _ _)
      | (with_reducible exact ih4 _ _ _ _ _ _ _)
      | (with_reducible exact ih5 _ _ _ _ _ _)
      | (with_reducible exact plaitlaw01_alive.mono _)
      | (with_reducible exact plaitref01_Join.mono _ _ _)
      | (with_reducible exact plaitref01_Leq.mono _ _ _)
      | (with_reducible exact plaitref01_Right.mono _ _)
      | (with_reducible exact plaitref01_Rows.mono _ _ _)
      | (with_reducible exact plaitref01_Tick.mono _ _ _)
      | (with_reducible exact LeO.refl _)
      | (with_reducible exact LeO.none _)
      | (with_reducible refine LeO.ite ?_ ?_)
      | (with_reducible refine LeO.bind ?_ (fun _ => ?_))
      | exact ih0 _ _ _ _ _ _ _ _ _ _ _ _ _ _
      | exact ih1 _ _ _ _ _ _ _ _ _ _ _ _ _ _
      | exact ih2 _ _ _ _ _ _ _ _
      | exact ih3 _ _ _ _ _ _ _
      | exact ih4 _ _ _ _ _ _ _
      | exact ih5 _ _ _ _ _ _
      | exact plaitlaw01_alive.mono _
      | exact plaitref01_Join.mono _ _ _
      | exact plaitref01_Leq.mono _ _ _
      | exact plaitref01_Right.mono _ _
      | exact plaitref01_Rows.mono _ _ _
      | exact plaitref01_Tick.mono _ _ _
      | exact LeO.none _
      | refine LeO.ite ?_ ?_
      | refine LeO.bind ?_ (fun _ => ?_)
    · intro y0 y1 y2 y3 y4 y5 y6
      unfold plaitlaw01_VclockTells.j3
      repeat' first
      | (with_reducible exact ih0 _ _ _ _ _ _ _ _ _ _ _ _ _ _)
      | (with_reducible exact ih1 _ _ _ _ _ _ _ _ _ _ _ _ _ _)
      | (with_reducible exact ih2 _ _ _ _ _ _ _ _)
      | (with_reducible exact ih3 _ _ _ _ _ _ _)
      | (with_reducible exact ih4 _ _ _ _ _ _ _)
      | (with_reducible exact ih5 _ _ _ _ _ _)
      | (with_reducible exact plaitlaw01_alive.mono _)
      | (with_reducible exact plaitref01_Join.mono _ _ _)
      | (with_reducible exact plaitref01_Leq.mono _ _ _)
      | (with_reducible exact plaitref01_Right.mono _ _)
      | (with_reducible exact plaitref01_Rows.mono _ _ _)
      | (with_reducible exact plaitref01_Tick.mono _ _ _)
      | (with_reducible exact LeO.refl _)
      | (with_reducible exact LeO.none _)
      | (with_reducible refine LeO.ite ?_ ?_)
      | (with_reducible refine LeO.bind ?_ (fun _ => ?_))
      | exact ih0 _ _ _ _ _ _ _ _ _ _ _ _ _ _
      | exact ih1 _ _ _ _ _ _ _ _ _ _ _ _ _ _
      | exact ih2 _ _ _ _ _ _ _ _
      | exact ih3 _ _ _ _ _ _ _
      | exact ih4 _ _ _ _ _ _ _
      | exact ih5 _ _ _ _ _ _
      | exact plaitlaw01_alive.mono _
      | exact plaitref01_Join.mono _ _ _
      | exact plaitref01_Leq.mono _ _ _
      | exact plaitref01_Right.mono _ _
      | exact plaitref01_Rows.mono _ _ _
      | exact plaitref01_Tick.mono _ _ _
      | exact LeO.none _
      | refine LeO.ite ?_ ?_
      | refine LeO.bind ?_ (fun _ => ?_)
    · intro y0 y1 y2 y3 y4 y5 y6
      unfold plaitlaw01_VclockTells.j4
      repeat' first
      | (with_reducible exact ih0 _ _ _ _ _ _ _ _ _ _ _ _ _ _)
      | (with_reducible exact ih1 _ _ _ _ _ _ _ _ _ _ _ _ _ _)
      | (with_reducible exact ih2 _ _ _ _ _ _ _ _)
      | (with_reducible exact ih3 _ _ _ _ _ _ _)
      | (with_reducible exact ih4 _ _ _ _ _ _ _)
      | (with_reducible exact ih5 _ _ _ _ _ _)
      | (with_reducible exact plaitlaw01_alive.mono _)
      | (with_reducible exact plaitref01_Join.mono _ _ _)
      | (with_reducible exact plaitref01_Leq.mono _ _ _)
      | (with_reducible exact plaitref01_Right.mono _ _)
      | (with_reducible exact plaitref01_Rows.mono _ _ _)
      | (with_reducible exact plaitref01_Tick.mono _ _ _)
      | (with_reducible exact LeO.refl _)
      | (with_reducible exact LeO.none _)
      | (with_reducible refine LeO.ite ?_ ?_)
      | (with_reducible refine LeO.bind ?_ (fun _ => ?_))
      | exact ih0 _ _ _ _ _ _ _ _ _ _ _ _ _ _
      | exact ih1 _ _ _ _ _ _ _ _ _ _ _ _ _ _
      | exact ih2 _ _ _ _ _ _ _ _
      | exact ih3 _ _ _ _ _ _ _
      | exact ih4 _ _ _ _ _ _ _
      | exact ih5 _ _ _ _ _ _
      | exact plaitlaw01_alive.mono _
      | exact plaitref01_Join.mono _ _ _
      | exact plaitref01_Leq.mono _ _ _
      | exact plaitref01_Right.mono _ _
      | exact plaitref01_Rows.mono _ _ _
      | exact plaitref01_Tick.mono _ _ _
      | exact LeO.none _
      | refine LeO.ite ?_ ?_
      | refine LeO.bind ?_ (fun _ => ?_)
    · intro y0 y1 y2 y3 y4 y5
      unfold plaitlaw01_VclockTells.j5
      repeat' first
      | (with_reducible exact ih0 _ _ _ _ _ _ _ _ _ _ _ _ _ _)
      | (with_reducible exact ih1 _ _ _ _ _ _ _ _ _ _ _ _ _ _)
      | (with_reducible exact ih2 _ _ _ _ _ _ _ _)
      | (with_reducible exact ih3 _ _ _ _ _ _ _)
      | (with_reducible exact ih4 _ _ _ _ _ _ _)
      | (with_reducible exact ih5 _ _ _ _ _ _)
      | (with_reducible exact plaitlaw01_alive.mono _)
      | (with_reducible exact plaitref01_Join.mono _ _ _)
      | (with_reducible exact plaitref01_Leq.mono _ _ _)
      | (with_reducible exact plaitref01_Right.mono _ _)
      | (with_reducible exact plaitref01_Rows.mono _ _ _)
      | (with_reducible exact plaitref01_Tick.mono _ _ _)
      | (with_reducible exact LeO.refl _)
      | (with_reducible exact LeO.none _)
      | (with_reducible refine LeO.ite ?_ ?_)
      | (with_reducible refine LeO.bind ?_ (fun _ => ?_))
      | exact ih0 _ _ _ _ _ _ _ _ _ _ _ _ _ _
      | exact ih1 _ _ _ _ _ _ _ _ _ _ _ _ _ _
      | exact ih2 _ _ _ _ _ _ _ _
      | exact ih3 _ _ _ _ _ _ _
      | exact ih4 _ _ _ _ _ _ _
      | exact ih5 _ _ _ _ _ _
      | exact plaitlaw01_alive.mono _
      | exact plaitref01_Join.mono _ _ _
      | exact plaitref01_Leq.mono _ _ _
      | exact plaitref01_Right.mono _ _
      | exact plaitref01_Rows.mono _ _ _
      | exact plaitref01_Tick.mono _ _ _
      | exact LeO.none _
      | refine LeO.ite ?_ ?_
      | refine LeO.bind ?_ (fun _ => ?_)
theorem plaitlaw01_VclockTells.mono : ∀ a0 a1 a2 k, LeO (plaitlaw01_VclockTells.f k a0 a1 a2) (plaitlaw01_VclockTells.f (k + 1) a0 a1 a2) := by
  intro a0 a1 a2 k
  obtain ⟨ih0, ih1, ih2, ih3, ih4, ih5⟩ := plaitlaw01_VclockTells.mono_l k
  unfold plaitlaw01_VclockTells.f
  repeat' first
      | (with_reducible exact ih0 _ _ _ _ _ _ _ _ _ _ _ _ _ _)
      | (with_reducible exact ih1 _ _ _ _ _ _ _ _ _ _ _ _ _ _)
      | (with_reducible exact ih2 _ _ _ _ _ _ _ _)
      | (with_reducible exact ih3 _ _ _ _ _ _ _)
      | (with_reducible exact ih4 _ _ _ _ _ _ _)
      | (with_reducible exact ih5 _ _ _ _ _ _)
      | (with_reducible exact plaitlaw01_alive.mono _)
      | (with_reducible exact plaitref01_Join.mono _ _ _)
      | (with_reducible exact plaitref01_Leq.mono _ _ _)
      | (with_reducible exact plaitref01_Right.mono _ _)
      | (with_reducible exact plaitref01_Rows.mono _ _ _)
      | (with_reducible exact plaitref01_Tick.mono _ _ _)
      | (with_reducible exact LeO.refl _)
      | (with_reducible exact LeO.none _)
      | (with_reducible refine LeO.ite ?_ ?_)
      | (with_reducible refine LeO.bind ?_ (fun _ => ?_))
      | exact ih0 _ _ _ _ _ _ _ _ _ _ _ _ _ _
      | exact ih1 _ _ _ _ _ _ _ _ _ _ _ _ _ _
      | exact ih2 _ _ _ _ _ _ _ _
      | exact ih3 _ _ _ _ _ _ _
      | exact ih4 _ _ _ _ _ _ _
      | exact ih5 _ _ _ _ _ _
      | exact plaitlaw01_alive.mono _
      | exact plaitref01_Join.mono _ _ _
      | exact plaitref01_Leq.mono _ _ _
      | exact plaitref01_Right.mono _ _
      | exact plaitref01_Rows.mono _ _ _
      | exact plaitref01_Tick.mono _ _ _
      | exact LeO.none _
      | refine LeO.ite ?_ ?_
      | refine LeO.bind ?_ (fun _ => ?_)
set_option maxHeartbeats 8000000 in
set_option maxRecDepth 100000 in
theorem plaitlaw01_VclockTells.calls (k : Nat) (A0 : Option Addr) (c0 : Nat) (l0 : List Int) (A1 : Option Addr) (c1 : Nat) (l1 : List Int) (a2 : Int) (r : Bool) (w : World) (hr0 : Kd.C (Kd.int .i64) w A0 l0.length l0) (hc0 : l0.length ≤ c0) (hr1 : Kd.C (Kd.int .i64) w A1 l1.length l1) (hc1 : l1.length ≤ c1) (h : plaitlaw01_VclockTells.f k l0 l1 a2 = some r) (hr_ : Aside0 (r = true)) :
    Calls Try.prog 14 #[.slice A0 l0.length c0, .slice A1 l1.length c1, .int .i64 a2] w fun e w' => e = .returned (.bool r) ∧ Below w.heap.size w w' := by
  have HR0 := Aside0.mk hr0
  have HC0 := Aside0.mk hc0
  clear hr0 hc0
  have HR1 := Aside0.mk hr1
  have HC1 := Aside0.mk hc1
  clear hr1 hc1
  have HB := Aside0.mk (Below.refl w.heap.size w)
  have H : ((plaitlaw01_few.f l0).bind fun t503 => ((plaitlaw01_few.f l1).bind fun t506 => ((vclock_At.f t503 a2).bind fun bt509 => ((vclock_Tick.f t503 a2).bind fun bt511 => ((vclock_Join.f t503 t506).bind fun bt515 => ((vclock_Leq.f t503 t506).bind fun bt519 => ((vclock_Trim.f t503).bind fun bt521 => ((vclock_Right.f t503).bind fun t525 => ((plaitref01_Right.f k t503).bind fun t526 => (if (t525 != t526) = true then (plaitlaw01_VclockTells.j0 k t503 t506 a2 bt509.1 bt509.2 bt511.1 bt511.2 bt515.1 bt515.2 bt519.1 bt519.2 bt521.1 bt521.2 true) else ((plaitlaw01_alive.f k).bind fun t527 => (plaitlaw01_VclockTells.j0 k t503 t506 a2 bt509.1 bt509.2 bt511.1 bt511.2 bt515.1 bt515.2 bt519.1 bt519.2 bt521.1 bt521.2 (!t527))))))))))))) = some r := h
  clear h
  replace H := Option.bind_eq_some_iff.mp H
  obtain ⟨t503, A40, H⟩ := H
  replace H : ((plaitlaw01_few.f l1).bind fun t506 => ((vclock_At.f t503 a2).bind fun bt509 => ((vclock_Tick.f t503 a2).bind fun bt511 => ((vclock_Join.f t503 t506).bind fun bt515 => ((vclock_Leq.f t503 t506).bind fun bt519 => ((vclock_Trim.f t503).bind fun bt521 => ((vclock_Right.f t503).bind fun t525 => ((plaitref01_Right.f k t503).bind fun t526 => (if (t525 != t526) = true then (plaitlaw01_VclockTells.j0 k t503 t506 a2 bt509.1 bt509.2 bt511.1 bt511.2 bt515.1 bt515.2 bt519.1 bt519.2 bt521.1 bt521.2 true) else ((plaitlaw01_alive.f k).bind fun t527 => (plaitlaw01_VclockTells.j0 k t503 t506 a2 bt509.1 bt509.2 bt511.1 bt511.2 bt515.1 bt515.2 bt519.1 bt519.2 bt521.1 bt521.2 (!t527)))))))))))) = some r := H
  have A4 := Aside0.mk A40
  clear A40
  replace H := Option.bind_eq_some_iff.mp H
  obtain ⟨t506, A50, H⟩ := H
  replace H : ((vclock_At.f t503 a2).bind fun bt509 => ((vclock_Tick.f t503 a2).bind fun bt511 => ((vclock_Join.f t503 t506).bind fun bt515 => ((vclock_Leq.f t503 t506).bind fun bt519 => ((vclock_Trim.f t503).bind fun bt521 => ((vclock_Right.f t503).bind fun t525 => ((plaitref01_Right.f k t503).bind fun t526 => (if (t525 != t526) = true then (plaitlaw01_VclockTells.j0 k t503 t506 a2 bt509.1 bt509.2 bt511.1 bt511.2 bt515.1 bt515.2 bt519.1 bt519.2 bt521.1 bt521.2 true) else ((plaitlaw01_alive.f k).bind fun t527 => (plaitlaw01_VclockTells.j0 k t503 t506 a2 bt509.1 bt509.2 bt511.1 bt511.2 bt515.1 bt515.2 bt519.1 bt519.2 bt521.1 bt521.2 (!t527))))))))))) = some r := H
  have A5 := Aside0.mk A50
  clear A50
  replace H := Option.bind_eq_some_iff.mp H
  obtain ⟨⟨t509, t510⟩, A60, H⟩ := H
  replace H : ((vclock_Tick.f t503 a2).bind fun bt511 => ((vclock_Join.f t503 t506).bind fun bt515 => ((vclock_Leq.f t503 t506).bind fun bt519 => ((vclock_Trim.f t503).bind fun bt521 => ((vclock_Right.f t503).bind fun t525 => ((plaitref01_Right.f k t503).bind fun t526 => (if (t525 != t526) = true then (plaitlaw01_VclockTells.j0 k t503 t506 a2 t509 t510 bt511.1 bt511.2 bt515.1 bt515.2 bt519.1 bt519.2 bt521.1 bt521.2 true) else ((plaitlaw01_alive.f k).bind fun t527 => (plaitlaw01_VclockTells.j0 k t503 t506 a2 t509 t510 bt511.1 bt511.2 bt515.1 bt515.2 bt519.1 bt519.2 bt521.1 bt521.2 (!t527)))))))))) = some r := H
  have A6 := Aside0.mk A60
  clear A60
  replace H := Option.bind_eq_some_iff.mp H
  obtain ⟨⟨t511, t512⟩, A70, H⟩ := H
  replace H : ((vclock_Join.f t503 t506).bind fun bt515 => ((vclock_Leq.f t503 t506).bind fun bt519 => ((vclock_Trim.f t503).bind fun bt521 => ((vclock_Right.f t503).bind fun t525 => ((plaitref01_Right.f k t503).bind fun t526 => (if (t525 != t526) = true then (plaitlaw01_VclockTells.j0 k t503 t506 a2 t509 t510 t511 t512 bt515.1 bt515.2 bt519.1 bt519.2 bt521.1 bt521.2 true) else ((plaitlaw01_alive.f k).bind fun t527 => (plaitlaw01_VclockTells.j0 k t503 t506 a2 t509 t510 t511 t512 bt515.1 bt515.2 bt519.1 bt519.2 bt521.1 bt521.2 (!t527))))))))) = some r := H
  have A7 := Aside0.mk A70
  clear A70
  replace H := Option.bind_eq_some_iff.mp H
  obtain ⟨⟨t515, t516⟩, A80, H⟩ := H
  replace H : ((vclock_Leq.f t503 t506).bind fun bt519 => ((vclock_Trim.f t503).bind fun bt521 => ((vclock_Right.f t503).bind fun t525 => ((plaitref01_Right.f k t503).bind fun t526 => (if (t525 != t526) = true then (plaitlaw01_VclockTells.j0 k t503 t506 a2 t509 t510 t511 t512 t515 t516 bt519.1 bt519.2 bt521.1 bt521.2 true) else ((plaitlaw01_alive.f k).bind fun t527 => (plaitlaw01_VclockTells.j0 k t503 t506 a2 t509 t510 t511 t512 t515 t516 bt519.1 bt519.2 bt521.1 bt521.2 (!t527)))))))) = some r := H
  have A8 := Aside0.mk A80
  clear A80
  replace H := Option.bind_eq_some_iff.mp H
  obtain ⟨⟨t519, t520⟩, A90, H⟩ := H
  replace H : ((vclock_Trim.f t503).bind fun bt521 => ((vclock_Right.f t503).bind fun t525 => ((plaitref01_Right.f k t503).bind fun t526 => (if (t525 != t526) = true then (plaitlaw01_VclockTells.j0 k t503 t506 a2 t509 t510 t511 t512 t515 t516 t519 t520 bt521.1 bt521.2 true) else ((plaitlaw01_alive.f k).bind fun t527 => (plaitlaw01_VclockTells.j0 k t503 t506 a2 t509 t510 t511 t512 t515 t516 t519 t520 bt521.1 bt521.2 (!t527))))))) = some r := H
  have A9 := Aside0.mk A90
  clear A90
  replace H := Option.bind_eq_some_iff.mp H
  obtain ⟨⟨t521, t522⟩, A100, H⟩ := H
  replace H : ((vclock_Right.f t503).bind fun t525 => ((plaitref01_Right.f k t503).bind fun t526 => (if (t525 != t526) = true then (plaitlaw01_VclockTells.j0 k t503 t506 a2 t509 t510 t511 t512 t515 t516 t519 t520 t521 t522 true) else ((plaitlaw01_alive.f k).bind fun t527 => (plaitlaw01_VclockTells.j0 k t503 t506 a2 t509 t510 t511 t512 t515 t516 t519 t520 t521 t522 (!t527)))))) = some r := H
  have A10 := Aside0.mk A100
  clear A100
  have HC11 := Aside0.mk H
  clear H
  go_enter Try.func14, Try.ntmps14
  go_upto_region 7 with (first | ((with_reducible refine gate_callee (f := 34) rfl ?_); refine goesL_ (some 18) rfl rfl Try.func34 (by kernel_rfl) rfl #[.slice A0 l0.length c0] rfl (by (try simp only [List.map_toArray, List.map_cons, List.map_nil]); first | done | rfl | (simp only [List.length_drop, List.length_take]; rfl)) ?_; (with_reducible refine (plaitlaw01_few.calls (fun k_ => k_ < w.heap.size) _ _ l0 t503 _ ?side1 A4.out).mono ?_); (case side1 => exact Kd.V_mk HC0.out (Kd.F_below (Kd.C_F (Kd.heap_int .i64) HR0.out) (by repeat (first | (with_reducible first | exact HB.out | apply below_alloc | apply pw_below_drewN | apply below_drew1) | exact HB.out)))); rintro e w12 ⟨v504, rfl, ho0, hb⟩; refine ⟨_, rfl, ?_⟩; have n0_ := Aside0.mk (Kd.V_lower (Kd.V_mono (ok' := fun k_ => True) ho0 (fun k_ hk_ => trivial)) (below_size (by repeat (first | (with_reducible first | exact HB.out | apply below_alloc | apply pw_below_drewN | apply below_drew1) | exact HB.out)))); have n1_ := Aside0.mk (below_step (by repeat (first | (with_reducible first | exact HB.out | apply below_alloc | apply pw_below_drewN | apply below_drew1) | exact HB.out)) hb); clear HB; have HO505 := n0_; have HB := n1_; clear n0_ n1_; (try clear hb); (try clear hb2); (try clear hk); (try clear hi); (try clear ho0)) | ((with_reducible refine gate_callee (f := 34) rfl ?_); refine goesL_ (some 20) rfl rfl Try.func34 (by kernel_rfl) rfl #[.slice A1 l1.length c1] rfl (by (try simp only [List.map_toArray, List.map_cons, List.map_nil]); first | done | rfl | (simp only [List.length_drop, List.length_take]; rfl)) ?_; (with_reducible refine (plaitlaw01_few.calls (fun k_ => k_ < w.heap.size) _ _ l1 t506 _ ?side1 A5.out).mono ?_); (case side1 => exact Kd.V_mk HC1.out (Kd.F_below (Kd.C_F (Kd.heap_int .i64) HR1.out) (by repeat (first | (with_reducible first | exact HB.out | apply below_alloc | apply pw_below_drewN | apply below_drew1) | exact HB.out)))); rintro e w13 ⟨v507, rfl, ho0, hb⟩; refine ⟨_, rfl, ?_⟩; have n0_ := Aside0.mk (Kd.V_below (by (with_reducible repeat (first | apply Kd.V_alloc | apply Kd.V_drewN | apply Kd.V_drew)); exact HO505.out) hb); have n1_ := Aside0.mk (Kd.V_lower (Kd.V_mono (ok' := fun k_ => True) ho0 (fun k_ hk_ => trivial)) (below_size (by repeat (first | (with_reducible first | exact HB.out | apply below_alloc | apply pw_below_drewN | apply below_drew1) | exact HB.out)))); have n2_ := Aside0.mk (below_step (by repeat (first | (with_reducible first | exact HB.out | apply below_alloc | apply pw_below_drewN | apply below_drew1) | exact HB.out)) hb); clear HO505; clear HB; have HO505 := n0_; have HO508 := n1_; have HB := n2_; clear n0_ n1_ n2_; (try clear hb); (try clear hb2); (try clear hk); (try clear hi); (try clear ho0); obtain ⟨Ao14, co14, eo14⟩ := Kd.V_slice HO505.out; subst eo14) | ((with_reducible refine gate_callee (f := 52) rfl ?_); refine goesL_ (some 24) rfl rfl Try.func52 (by kernel_rfl) rfl #[.slice Ao14 t503.length co14, .int .i64 a2] rfl (by (try simp only [List.map_toArray, List.map_cons, List.map_nil]); first | done | rfl | (simp only [List.length_drop, List.length_take]; rfl)) ?_; (with_reducible refine (vclock_At.calls _ _ t503 a2 t509 t510 _ ?side1 ?side2 A6.out).mono ?_); (case side1 => repeat (first | exact (Kd.V_reads' HO505.out).2.2 | (with_reducible refine Kd.C_alloc ?_ _) | (with_reducible refine Kd.C_drewN ?_ _) | (with_reducible refine Kd.C_drew ?_))); (case side2 => exact (Kd.V_reads' HO505.out).2.1); rintro e w15 ⟨rfl, hb⟩; refine ⟨_, rfl, ?_⟩; have n0_ := Aside0.mk (Kd.V_below (by (with_reducible repeat (first | apply Kd.V_alloc | apply Kd.V_drewN | apply Kd.V_drew)); exact HO505.out) hb); have n1_ := Aside0.mk (Kd.V_below (by (with_reducible repeat (first | apply Kd.V_alloc | apply Kd.V_drewN | apply Kd.V_drew)); exact HO508.out) hb); have n2_ := Aside0.mk (below_step (by repeat (first | (with_reducible first | exact HB.out | apply below_alloc | apply pw_below_drewN | apply below_drew1) | exact HB.out)) hb); clear HO505; clear HO508; clear HB; have HO505 := n0_; have HO508 := n1_; have HB := n2_; clear n0_ n1_ n2_; (try clear hb); (try clear hb2); (try clear hk); (try clear hi)) | ((with_reducible refine gate_callee (f := 53) rfl ?_); refine goesL_ (some 30) rfl rfl Try.func53 (by kernel_rfl) rfl #[.slice Ao14 t503.length co14, .int .i64 a2] rfl (by (try simp only [List.map_toArray, List.map_cons, List.map_nil]); first | done | rfl | (simp only [List.length_drop, List.length_take]; rfl)) ?_; (with_reducible refine (vclock_Tick.calls _ _ t503 a2 t511 t512 _ ?side1 ?side2 A7.out).mono ?_); (case side1 => repeat (first | exact (Kd.V_reads' HO505.out).2.2 | (with_reducible refine Kd.C_alloc ?_ _) | (with_reducible refine Kd.C_drewN ?_ _) | (with_reducible refine Kd.C_drew ?_))); (case side2 => exact (Kd.V_reads' HO505.out).2.1); rintro e w16 ⟨v513, rfl, ho0, hb⟩; refine ⟨_, rfl, ?_⟩; have n0_ := Aside0.mk (Kd.V_elder' (by (with_reducible repeat (first | apply Kd.V_alloc | apply Kd.V_drewN | apply Kd.V_drew)); exact HO505.out) (Kd.R_base ho0) hb); have n1_ := Aside0.mk (Kd.V_elder' (by (with_reducible repeat (first | apply Kd.V_alloc | apply Kd.V_drewN | apply Kd.V_drew)); exact HO508.out) (Kd.R_base ho0) hb); have n2_ := Aside0.mk (Kd.R_lower ho0 (below_size (by repeat (first | (with_reducible first | exact HB.out | apply below_alloc | apply pw_below_drewN | apply below_drew1) | exact HB.out)))); have n3_ := Aside0.mk (below_step (by repeat (first | (with_reducible first | exact HB.out | apply below_alloc | apply pw_below_drewN | apply below_drew1) | exact HB.out)) hb); clear HO505; clear HO508; clear HB; have HO505 := n0_; have HO508 := n1_; have HO514 := n2_; have HB := n3_; clear n0_ n1_ n2_ n3_; (try clear hb); (try clear hb2); (try clear hk); (try clear hi); (try clear ho0); obtain ⟨Ao17, co17, eo17⟩ := Kd.V_slice HO508.out; subst eo17) | ((with_reducible refine gate_callee (f := 35) rfl ?_); refine goesL_ (some 36) rfl rfl Try.func35 (by kernel_rfl) rfl #[.slice Ao14 t503.length co14, .slice Ao17 t506.length co17] rfl (by (try simp only [List.map_toArray, List.map_cons, List.map_nil]); first | done | rfl | (simp only [List.length_drop, List.length_take]; rfl)) ?_; (with_reducible refine (vclock_Join.calls _ _ t503 _ _ t506 t515 t516 _ ?side1 ?side2 ?side3 ?side4 A8.out).mono ?_); (case side1 => repeat (first | exact (Kd.V_reads' HO505.out).2.2 | (with_reducible refine Kd.C_alloc ?_ _) | (with_reducible refine Kd.C_drewN ?_ _) | (with_reducible refine Kd.C_drew ?_))); (case side2 => exact (Kd.V_reads' HO505.out).2.1); (case side3 => repeat (first | exact (Kd.V_reads' HO508.out).2.2 | (with_reducible refine Kd.C_alloc ?_ _) | (with_reducible refine Kd.C_drewN ?_ _) | (with_reducible refine Kd.C_drew ?_))); (case side4 => exact (Kd.V_reads' HO508.out).2.1); rintro e w18 ⟨v517, rfl, ho0, hb⟩; refine ⟨_, rfl, ?_⟩; have n0_ := Aside0.mk (Kd.V_elder' (by (with_reducible repeat (first | apply Kd.V_alloc | apply Kd.V_drewN | apply Kd.V_drew)); exact HO505.out) (Kd.R_base ho0) hb); have n1_ := Aside0.mk (Kd.V_elder' (by (with_reducible repeat (first | apply Kd.V_alloc | apply Kd.V_drewN | apply Kd.V_drew)); exact HO508.out) (Kd.R_base ho0) hb); have n2_ := Aside0.mk (Kd.R_elder' (by (with_reducible repeat (first | apply Kd.R_alloc | apply Kd.R_drewN | apply Kd.R_drew)); exact HO514.out) (Kd.R_base ho0) hb); have n3_ := Aside0.mk (Kd.R_lower (Kd.R_new' ho0 (Kd.R_lt (by (with_reducible repeat (first | apply Kd.R_alloc | apply Kd.R_drewN | apply Kd.R_drew)); exact HO514.out))) (below_size (by repeat (first | (with_reducible first | exact HB.out | apply below_alloc | apply pw_below_drewN | apply below_drew1) | exact HB.out)))); have n4_ := Aside0.mk (below_step (by repeat (first | (with_reducible first | exact HB.out | apply below_alloc | apply pw_below_drewN | apply below_drew1) | exact HB.out)) hb); clear HO505; clear HO508; clear HO514; clear HB; have HO505 := n0_; have HO508 := n1_; have HO514 := n2_; have HO518 := n3_; have HB := n4_; clear n0_ n1_ n2_ n3_ n4_; (try clear hb); (try clear hb2); (try clear hk); (try clear hi); (try clear ho0)) | ((with_reducible refine gate_callee (f := 37) rfl ?_); refine goesL_ (some 42) rfl rfl Try.func37 (by kernel_rfl) rfl #[.slice Ao14 t503.length co14, .slice Ao17 t506.length co17] rfl (by (try simp only [List.map_toArray, List.map_cons, List.map_nil]); first | done | rfl | (simp only [List.length_drop, List.length_take]; rfl)) ?_; (with_reducible refine (vclock_Leq.calls _ _ t503 _ _ t506 t519 t520 _ ?side1 ?side2 ?side3 ?side4 A9.out).mono ?_); (case side1 => repeat (first | exact (Kd.V_reads' HO505.out).2.2 | (with_reducible refine Kd.C_alloc ?_ _) | (with_reducible refine Kd.C_drewN ?_ _) | (with_reducible refine Kd.C_drew ?_))); (case side2 => exact (Kd.V_reads' HO505.out).2.1); (case side3 => repeat (first | exact (Kd.V_reads' HO508.out).2.2 | (with_reducible refine Kd.C_alloc ?_ _) | (with_reducible refine Kd.C_drewN ?_ _) | (with_reducible refine Kd.C_drew ?_))); (case side4 => exact (Kd.V_reads' HO508.out).2.1); rintro e w19 ⟨rfl, hb⟩; refine ⟨_, rfl, ?_⟩; have n0_ := Aside0.mk (Kd.V_below (by (with_reducible repeat (first | apply Kd.V_alloc | apply Kd.V_drewN | apply Kd.V_drew)); exact HO505.out) hb); have n1_ := Aside0.mk (Kd.V_below (by (with_reducible repeat (first | apply Kd.V_alloc | apply Kd.V_drewN | apply Kd.V_drew)); exact HO508.out) hb); have n2_ := Aside0.mk (Kd.R_below (by (with_reducible repeat (first | apply Kd.R_alloc | apply Kd.R_drewN | apply Kd.R_drew)); exact HO514.out) hb); have n3_ := Aside0.mk (Kd.R_below (by (with_reducible repeat (first | apply Kd.R_alloc | apply Kd.R_drewN | apply Kd.R_drew)); exact HO518.out) hb); have n4_ := Aside0.mk (below_step (by repeat (first | (with_reducible first | exact HB.out | apply below_alloc | apply pw_below_drewN | apply below_drew1) | exact HB.out)) hb); clear HO505; clear HO508; clear HO514; clear HO518; clear HB; have HO505 := n0_; have HO508 := n1_; have HO514 := n2_; have HO518 := n3_; have HB := n4_; clear n0_ n1_ n2_ n3_ n4_; (try clear hb); (try clear hb2); (try clear hk); (try clear hi)) | ((with_reducible refine gate_callee (f := 39) rfl ?_); refine goesL_ (some 47) rfl rfl Try.func39 (by kernel_rfl) rfl #[.slice Ao14 t503.length co14] rfl (by (try simp only [List.map_toArray, List.map_cons, List.map_nil]); first | done | rfl | (simp only [List.length_drop, List.length_take]; rfl)) ?_; (with_reducible refine (vclock_Trim.calls _ _ t503 t521 t522 _ ?side1 ?side2 A10.out).mono ?_); (case side1 => repeat (first | exact (Kd.V_reads' HO505.out).2.2 | (with_reducible refine Kd.C_alloc ?_ _) | (with_reducible refine Kd.C_drewN ?_ _) | (with_reducible refine Kd.C_drew ?_))); (case side2 => exact (Kd.V_reads' HO505.out).2.1); rintro e w20 ⟨v523, rfl, ho0, hb⟩; refine ⟨_, rfl, ?_⟩; have n0_ := Aside0.mk (Kd.V_elder' (by (with_reducible repeat (first | apply Kd.V_alloc | apply Kd.V_drewN | apply Kd.V_drew)); exact HO505.out) (Kd.R_base ho0) hb); have n1_ := Aside0.mk (Kd.V_elder' (by (with_reducible repeat (first | apply Kd.V_alloc | apply Kd.V_drewN | apply Kd.V_drew)); exact HO508.out) (Kd.R_base ho0) hb); have n2_ := Aside0.mk (Kd.R_elder' (by (with_reducible repeat (first | apply Kd.R_alloc | apply Kd.R_drewN | apply Kd.R_drew)); exact HO514.out) (Kd.R_base ho0) hb); have n3_ := Aside0.mk (Kd.R_elder' (by (with_reducible repeat (first | apply Kd.R_alloc | apply Kd.R_drewN | apply Kd.R_drew)); exact HO518.out) (Kd.R_base ho0) hb); have n4_ := Aside0.mk (Kd.R_lower (Kd.R_new' (Kd.R_new' ho0 (Kd.R_lt (by (with_reducible repeat (first | apply Kd.R_alloc | apply Kd.R_drewN | apply Kd.R_drew)); exact HO514.out))) (Kd.R_lt (by (with_reducible repeat (first | apply Kd.R_alloc | apply Kd.R_drewN | apply Kd.R_drew)); exact HO518.out))) (below_size (by repeat (first | (with_reducible first | exact HB.out | apply below_alloc | apply pw_below_drewN | apply below_drew1) | exact HB.out)))); have n5_ := Aside0.mk (below_step (by repeat (first | (with_reducible first | exact HB.out | apply below_alloc | apply pw_below_drewN | apply below_drew1) | exact HB.out)) hb); clear HO505; clear HO508; clear HO514; clear HO518; clear HB; have HO505 := n0_; have HO508 := n1_; have HO514 := n2_; have HO518 := n3_; have HO524 := n4_; have HB := n5_; clear n0_ n1_ n2_ n3_ n4_ n5_; (try clear hb); (try clear hb2); (try clear hk); (try clear hi); (try clear ho0)))
  (try simp only [Act.put, List.setIfInBounds_toArray, List.set_cons_zero, List.set_cons_succ])
  go_cut [58] (fun v58 wc => ∃ (kq : Nat) (x58_10 : Bool), v58 = .bool x58_10 ∧ Aside0 (plaitlaw01_VclockTells.j0 kq t503 t506 a2 t509 t510 t511 t512 t515 t516 t519 t520 t521 t522 x58_10 = some r) ∧ Aside0 (kq ≤ k) ∧ Aside0 (Kd.V (Kd.int .i64) 3 wc w.heap.size (fun k_ => some k_ ≠ (v513 : Value).ownBlock ∧ some k_ ≠ (v517 : Value).ownBlock ∧ some k_ ≠ (v523 : Value).ownBlock) (.slice Ao14 t503.length co14) t503) ∧ Aside0 (Kd.V (Kd.int .i64) 3 wc w.heap.size (fun k_ => some k_ ≠ (v513 : Value).ownBlock ∧ some k_ ≠ (v517 : Value).ownBlock ∧ some k_ ≠ (v523 : Value).ownBlock) (.slice Ao17 t506.length co17) t506) ∧ Aside0 (Kd.R (Kd.int .i64) 3 wc w.heap.size (fun k_ => some k_ ≠ (v517 : Value).ownBlock ∧ some k_ ≠ (v523 : Value).ownBlock) v513 t511) ∧ Aside0 (Kd.R (Kd.int .i64) 3 wc w.heap.size (fun k_ => some k_ ≠ (v513 : Value).ownBlock ∧ some k_ ≠ (v523 : Value).ownBlock) v517 t515) ∧ Aside0 (Kd.R (Kd.int .i64) 3 wc w.heap.size (fun k_ => some k_ ≠ (v513 : Value).ownBlock ∧ some k_ ≠ (v517 : Value).ownBlock) v523 t521) ∧ Aside0 (Below w.heap.size w wc))
  case first =>
    have H := HC11.out
    clear HC11
    replace H := Option.bind_eq_some_iff.mp H
    obtain ⟨t525, A210, H⟩ := H
    replace H : ((plaitref01_Right.f k t503).bind fun t526 => (if (t525 != t526) = true then (plaitlaw01_VclockTells.j0 k t503 t506 a2 t509 t510 t511 t512 t515 t516 t519 t520 t521 t522 true) else ((plaitlaw01_alive.f k).bind fun t527 => (plaitlaw01_VclockTells.j0 k t503 t506 a2 t509 t510 t511 t512 t515 t516 t519 t520 t521 t522 (!t527))))) = some r := H
    have A21 := Aside0.mk A210
    clear A210
    replace H := Option.bind_eq_some_iff.mp H
    obtain ⟨t526, A220, H⟩ := H
    replace H : (if (t525 != t526) = true then (plaitlaw01_VclockTells.j0 k t503 t506 a2 t509 t510 t511 t512 t515 t516 t519 t520 t521 t522 true) else ((plaitlaw01_alive.f k).bind fun t527 => (plaitlaw01_VclockTells.j0 k t503 t506 a2 t509 t510 t511 t512 t515 t516 t519 t520 t521 t522 (!t527)))) = some r := H
    have A22 := Aside0.mk A220
    clear A220
    by_cases c23 : (t525 != t526) = true
    · rw [if_pos c23] at H
      have c23b0 : (t525 != t526) = true := c23
      (try (have c23b1 : decide (t525 = t526) = false := by simpa using c23))
      (try (have c23b2 : (t525 == t526) = false := by simpa using c23))
      (try (have c23b3 : ¬ (t525 = t526) := by simpa using c23))
      clear c23
      (first | rw [c23b0] | (simp only [i64_w, i32_w]; rw [c23b0]) | skip)
      have H' := Aside0.mk H
      clear H
      go_wp2_with (first | ((with_reducible refine gate_callee (f := 54) rfl ?_); refine goesL_ (some 51) rfl rfl Try.func54 (by kernel_rfl) rfl #[.slice Ao14 t503.length co14] rfl (by (try simp only [List.map_toArray, List.map_cons, List.map_nil]); first | done | rfl | (simp only [List.length_drop, List.length_take]; rfl)) ?_; (with_reducible refine (vclock_Right.calls _ _ t503 t525 _ ?side1 ?side2 A21.out).mono ?_); (case side1 => repeat (first | exact (Kd.V_reads' HO505.out).2.2 | (with_reducible refine Kd.C_alloc ?_ _) | (with_reducible refine Kd.C_drewN ?_ _) | (with_reducible refine Kd.C_drew ?_))); (case side2 => exact (Kd.V_reads' HO505.out).2.1); rintro e w24 ⟨rfl, hb⟩; refine ⟨_, rfl, ?_⟩; have n0_ := Aside0.mk (Kd.V_below (by (with_reducible repeat (first | apply Kd.V_alloc | apply Kd.V_drewN | apply Kd.V_drew)); exact HO505.out) hb); have n1_ := Aside0.mk (Kd.V_below (by (with_reducible repeat (first | apply Kd.V_alloc | apply Kd.V_drewN | apply Kd.V_drew)); exact HO508.out) hb); have n2_ := Aside0.mk (Kd.R_below (by (with_reducible repeat (first | apply Kd.R_alloc | apply Kd.R_drewN | apply Kd.R_drew)); exact HO514.out) hb); have n3_ := Aside0.mk (Kd.R_below (by (with_reducible repeat (first | apply Kd.R_alloc | apply Kd.R_drewN | apply Kd.R_drew)); exact HO518.out) hb); have n4_ := Aside0.mk (Kd.R_below (by (with_reducible repeat (first | apply Kd.R_alloc | apply Kd.R_drewN | apply Kd.R_drew)); exact HO524.out) hb); have n5_ := Aside0.mk (below_step (by repeat (first | (with_reducible first | exact HB.out | apply below_alloc | apply pw_below_drewN | apply below_drew1) | exact HB.out)) hb); clear HO505; clear HO508; clear HO514; clear HO518; clear HO524; clear HB; have HO505 := n0_; have HO508 := n1_; have HO514 := n2_; have HO518 := n3_; have HO524 := n4_; have HB := n5_; clear n0_ n1_ n2_ n3_ n4_ n5_; (try clear hb); (try clear hb2); (try clear hk); (try clear hi)) | ((with_reducible refine gate_callee (f := 50) rfl ?_); refine goesL_ (some 53) rfl rfl Try.func50 (by kernel_rfl) rfl #[.slice Ao14 t503.length co14] rfl (by (try simp only [List.map_toArray, List.map_cons, List.map_nil]); first | done | rfl | (simp only [List.length_drop, List.length_take]; rfl)) ?_; (with_reducible refine (plaitref01_Right.calls k _ _ t503 t526 _ ?side1 ?side2 A22.out).mono ?_); (case side1 => repeat (first | exact (Kd.V_reads' HO505.out).2.2 | (with_reducible refine Kd.C_alloc ?_ _) | (with_reducible refine Kd.C_drewN ?_ _) | (with_reducible refine Kd.C_drew ?_))); (case side2 => exact (Kd.V_reads' HO505.out).2.1); rintro e w' ⟨rfl, ⟨nd, rfl⟩⟩; refine ⟨_, rfl, ?_⟩))
      go_meet
      case rel => exact ⟨_, (true), (by first | rfl | (simp; done) | (simp [*]; done)), H', ⟨by first | omega | exact Nat.le_refl _⟩, ⟨by (with_reducible repeat (first | apply Kd.V_alloc | apply Kd.V_drewN | apply Kd.V_drew)); exact Kd.V_mono HO505.out (fun _ hk => ⟨hk.1.1.2, ⟨hk.1.2, hk.2⟩⟩)⟩, ⟨by (with_reducible repeat (first | apply Kd.V_alloc | apply Kd.V_drewN | apply Kd.V_drew)); exact Kd.V_mono HO508.out (fun _ hk => ⟨hk.1.1.2, ⟨hk.1.2, hk.2⟩⟩)⟩, ⟨by (with_reducible repeat (first | apply Kd.R_alloc | apply Kd.R_drewN | apply Kd.R_drew)); exact Kd.R_mono HO514.out (fun _ hk => ⟨hk.1.2, hk.2⟩)⟩, ⟨by (with_reducible repeat (first | apply Kd.R_alloc | apply Kd.R_drewN | apply Kd.R_drew)); exact Kd.R_mono HO518.out (fun _ hk => ⟨hk.1.2, hk.2⟩)⟩, ⟨by (with_reducible repeat (first | apply Kd.R_alloc | apply Kd.R_drewN | apply Kd.R_drew)); exact Kd.R_mono HO524.out (fun _ hk => ⟨hk.1.2, hk.2⟩)⟩, ⟨by repeat (first | (with_reducible first | exact HB.out | apply below_alloc | apply pw_below_drewN | apply below_drew1) | exact HB.out)⟩⟩
    · rw [if_neg c23] at H
      have c23b0 : (t525 != t526) = false := by simpa using c23
      (try (have c23b1 : decide (t525 = t526) = true := by simpa using c23))
      (try (have c23b2 : (t525 == t526) = true := by simpa using c23))
      clear c23
      (first | rw [c23b0] | (simp only [i64_w, i32_w]; rw [c23b0]) | skip)
      replace H := Option.bind_eq_some_iff.mp H
      obtain ⟨t527, A250, H⟩ := H
      replace H : (plaitlaw01_VclockTells.j0 k t503 t506 a2 t509 t510 t511 t512 t515 t516 t519 t520 t521 t522 (!t527)) = some r := H
      have A25 := Aside0.mk A250
      clear A250
      have H' := Aside0.mk H
      clear H
      go_wp2_with (first | ((with_reducible refine gate_callee (f := 54) rfl ?_); refine goesL_ (some 51) rfl rfl Try.func54 (by kernel_rfl) rfl #[.slice Ao14 t503.length co14] rfl (by (try simp only [List.map_toArray, List.map_cons, List.map_nil]); first | done | rfl | (simp only [List.length_drop, List.length_take]; rfl)) ?_; (with_reducible refine (vclock_Right.calls _ _ t503 t525 _ ?side1 ?side2 A21.out).mono ?_); (case side1 => repeat (first | exact (Kd.V_reads' HO505.out).2.2 | (with_reducible refine Kd.C_alloc ?_ _) | (with_reducible refine Kd.C_drewN ?_ _) | (with_reducible refine Kd.C_drew ?_))); (case side2 => exact (Kd.V_reads' HO505.out).2.1); rintro e w26 ⟨rfl, hb⟩; refine ⟨_, rfl, ?_⟩; have n0_ := Aside0.mk (Kd.V_below (by (with_reducible repeat (first | apply Kd.V_alloc | apply Kd.V_drewN | apply Kd.V_drew)); exact HO505.out) hb); have n1_ := Aside0.mk (Kd.V_below (by (with_reducible repeat (first | apply Kd.V_alloc | apply Kd.V_drewN | apply Kd.V_drew)); exact HO508.out) hb); have n2_ := Aside0.mk (Kd.R_below (by (with_reducible repeat (first | apply Kd.R_alloc | apply Kd.R_drewN | apply Kd.R_drew)); exact HO514.out) hb); have n3_ := Aside0.mk (Kd.R_below (by (with_reducible repeat (first | apply Kd.R_alloc | apply Kd.R_drewN | apply Kd.R_drew)); exact HO518.out) hb); have n4_ := Aside0.mk (Kd.R_below (by (with_reducible repeat (first | apply Kd.R_alloc | apply Kd.R_drewN | apply Kd.R_drew)); exact HO524.out) hb); have n5_ := Aside0.mk (below_step (by repeat (first | (with_reducible first | exact HB.out | apply below_alloc | apply pw_below_drewN | apply below_drew1) | exact HB.out)) hb); clear HO505; clear HO508; clear HO514; clear HO518; clear HO524; clear HB; have HO505 := n0_; have HO508 := n1_; have HO514 := n2_; have HO518 := n3_; have HO524 := n4_; have HB := n5_; clear n0_ n1_ n2_ n3_ n4_ n5_; (try clear hb); (try clear hb2); (try clear hk); (try clear hi)) | ((with_reducible refine gate_callee (f := 50) rfl ?_); refine goesL_ (some 53) rfl rfl Try.func50 (by kernel_rfl) rfl #[.slice Ao14 t503.length co14] rfl (by (try simp only [List.map_toArray, List.map_cons, List.map_nil]); first | done | rfl | (simp only [List.length_drop, List.length_take]; rfl)) ?_; (with_reducible refine (plaitref01_Right.calls k _ _ t503 t526 _ ?side1 ?side2 A22.out).mono ?_); (case side1 => repeat (first | exact (Kd.V_reads' HO505.out).2.2 | (with_reducible refine Kd.C_alloc ?_ _) | (with_reducible refine Kd.C_drewN ?_ _) | (with_reducible refine Kd.C_drew ?_))); (case side2 => exact (Kd.V_reads' HO505.out).2.1); rintro e w' ⟨rfl, ⟨nd, rfl⟩⟩; refine ⟨_, rfl, ?_⟩) | (go_at_call 36; (with_reducible refine (plaitlaw01_alive.calls k  t527 _ A25.out).mono ?_); rintro e w27 ⟨rfl, hb⟩; have n0_ := Aside0.mk (Kd.V_below (by (with_reducible repeat (first | apply Kd.V_alloc | apply Kd.V_drewN | apply Kd.V_drew)); exact HO505.out) hb); have n1_ := Aside0.mk (Kd.V_below (by (with_reducible repeat (first | apply Kd.V_alloc | apply Kd.V_drewN | apply Kd.V_drew)); exact HO508.out) hb); have n2_ := Aside0.mk (Kd.R_below (by (with_reducible repeat (first | apply Kd.R_alloc | apply Kd.R_drewN | apply Kd.R_drew)); exact HO514.out) hb); have n3_ := Aside0.mk (Kd.R_below (by (with_reducible repeat (first | apply Kd.R_alloc | apply Kd.R_drewN | apply Kd.R_drew)); exact HO518.out) hb); have n4_ := Aside0.mk (Kd.R_below (by (with_reducible repeat (first | apply Kd.R_alloc | apply Kd.R_drewN | apply Kd.R_drew)); exact HO524.out) hb); have n5_ := Aside0.mk (below_step (by repeat (first | (with_reducible first | exact HB.out | apply below_alloc | apply pw_below_drewN | apply below_drew1) | exact HB.out)) hb); clear HO505; clear HO508; clear HO514; clear HO518; clear HO524; clear HB; have HO505 := n0_; have HO508 := n1_; have HO514 := n2_; have HO518 := n3_; have HO524 := n4_; have HB := n5_; clear n0_ n1_ n2_ n3_ n4_ n5_; (try clear hb); (try clear hb2); (try clear hk); (try clear hi)))
      go_meet
      case rel => exact ⟨_, (!t527), (by first | rfl | (simp; done) | (simp [*]; done)), H', ⟨by first | omega | exact Nat.le_refl _⟩, ⟨by (with_reducible repeat (first | apply Kd.V_alloc | apply Kd.V_drewN | apply Kd.V_drew)); exact Kd.V_mono HO505.out (fun _ hk => ⟨hk.1.1.2, ⟨hk.1.2, hk.2⟩⟩)⟩, ⟨by (with_reducible repeat (first | apply Kd.V_alloc | apply Kd.V_drewN | apply Kd.V_drew)); exact Kd.V_mono HO508.out (fun _ hk => ⟨hk.1.1.2, ⟨hk.1.2, hk.2⟩⟩)⟩, ⟨by (with_reducible repeat (first | apply Kd.R_alloc | apply Kd.R_drewN | apply Kd.R_drew)); exact Kd.R_mono HO514.out (fun _ hk => ⟨hk.1.2, hk.2⟩)⟩, ⟨by (with_reducible repeat (first | apply Kd.R_alloc | apply Kd.R_drewN | apply Kd.R_drew)); exact Kd.R_mono HO518.out (fun _ hk => ⟨hk.1.2, hk.2⟩)⟩, ⟨by (with_reducible repeat (first | apply Kd.R_alloc | apply Kd.R_drewN | apply Kd.R_drew)); exact Kd.R_mono HO524.out (fun _ hk => ⟨hk.1.2, hk.2⟩)⟩, ⟨by repeat (first | (with_reducible first | exact HB.out | apply below_alloc | apply pw_below_drewN | apply below_drew1) | exact HB.out)⟩⟩
  case rest =>
    clear HC11
    try clear c1
    try clear c2
    try clear p2
    try clear c3
    try clear c5
    try clear c14
    try clear c23
    try clear c23b0
    try clear c23b1
    try clear c23b2
    obtain ⟨kq, x58_10, rfl, HA, HJ10, HO_0, HO_1, HO_9, HO_11, HO_15, HB⟩ := hcut
    cases kq with
    | zero => exact absurd HA.out (by simp [plaitlaw01_VclockTells.j0])
    | succ kj10 =>
      have H := HA.out
      clear HA
      simp only [plaitlaw01_VclockTells.j0] at H
      by_cases c28 : x58_10 = true
      · subst c28
        have H1 : (some false) = some r := by rw [if_pos rfl] at H; exact H
        clear H
        have H := H1
        clear H1
        exact absurd (Option.some.inj H) (by rw [hr_.out]; decide)
      · replace c28 := Bool.eq_false_iff.mpr c28
        subst c28
        have H1 : ((plaitref01_Right.f kj10 t503).bind fun t528 => (if t528 = true then ((plaitref01_Right.f kj10 t506).bind fun t529 => (plaitlaw01_VclockTells.j1 kj10 t503 t506 a2 t509 t510 t511 t512 t515 t516 t519 t520 t521 t522 (!t529))) else (plaitlaw01_VclockTells.j1 kj10 t503 t506 a2 t509 t510 t511 t512 t515 t516 t519 t520 t521 t522 true))) = some r := by rw [if_neg (show ¬ (false = true) by decide)] at H; exact H
        clear H
        have H := H1
        clear H1
        have HC29 := Aside0.mk H
        clear H
        go_upto_region 9 with (fail)
        go_cut [66] (fun v66 wc => ∃ (kq : Nat) (x66_28 : Bool), v66 = .bool x66_28 ∧ Aside0 (plaitlaw01_VclockTells.j1 kq t503 t506 a2 t509 t510 t511 t512 t515 t516 t519 t520 t521 t522 x66_28 = some r) ∧ Aside0 (kq ≤ kj10) ∧ Aside0 (Kd.V (Kd.int .i64) 3 wc w.heap.size (fun k_ => some k_ ≠ (v513 : Value).ownBlock ∧ some k_ ≠ (v517 : Value).ownBlock ∧ some k_ ≠ (v523 : Value).ownBlock) (.slice Ao14 t503.length co14) t503) ∧ Aside0 (Kd.V (Kd.int .i64) 3 wc w.heap.size (fun k_ => some k_ ≠ (v513 : Value).ownBlock ∧ some k_ ≠ (v517 : Value).ownBlock ∧ some k_ ≠ (v523 : Value).ownBlock) (.slice Ao17 t506.length co17) t506) ∧ Aside0 (Kd.R (Kd.int .i64) 3 wc w.heap.size (fun k_ => some k_ ≠ (v517 : Value).ownBlock ∧ some k_ ≠ (v523 : Value).ownBlock) v513 t511) ∧ Aside0 (Kd.R (Kd.int .i64) 3 wc w.heap.size (fun k_ => some k_ ≠ (v513 : Value).ownBlock ∧ some k_ ≠ (v523 : Value).ownBlock) v517 t515) ∧ Aside0 (Kd.R (Kd.int .i64) 3 wc w.heap.size (fun k_ => some k_ ≠ (v513 : Value).ownBlock ∧ some k_ ≠ (v517 : Value).ownBlock) v523 t521) ∧ Aside0 (Below w.heap.size w wc))
        case first =>
          have H := HC29.out
          clear HC29
          replace H := Option.bind_eq_some_iff.mp H
          obtain ⟨t528, A300, H⟩ := H
          replace H : (if t528 = true then ((plaitref01_Right.f kj10 t506).bind fun t529 => (plaitlaw01_VclockTells.j1 kj10 t503 t506 a2 t509 t510 t511 t512 t515 t516 t519 t520 t521 t522 (!t529))) else (plaitlaw01_VclockTells.j1 kj10 t503 t506 a2 t509 t510 t511 t512 t515 t516 t519 t520 t521 t522 true)) = some r := H
          have A30 := Aside0.mk A300
          clear A300
          by_cases c31 : t528 = true
          · subst c31
            have H1 : ((plaitref01_Right.f kj10 t506).bind fun t529 => (plaitlaw01_VclockTells.j1 kj10 t503 t506 a2 t509 t510 t511 t512 t515 t516 t519 t520 t521 t522 (!t529))) = some r := by rw [if_pos rfl] at H; exact H
            clear H
            have H := H1
            clear H1
            replace H := Option.bind_eq_some_iff.mp H
            obtain ⟨t529, A320, H⟩ := H
            replace H : (plaitlaw01_VclockTells.j1 kj10 t503 t506 a2 t509 t510 t511 t512 t515 t516 t519 t520 t521 t522 (!t529)) = some r := H
            have A32 := Aside0.mk A320
            clear A320
            have H' := Aside0.mk H
            clear H
            go_wp2_with (first | ((with_reducible refine gate_callee (f := 50) rfl ?_); refine goesL_ (some 60) rfl rfl Try.func50 (by kernel_rfl) rfl #[.slice Ao14 t503.length co14] rfl (by (try simp only [List.map_toArray, List.map_cons, List.map_nil]); first | done | rfl | (simp only [List.length_drop, List.length_take]; rfl)) ?_; (with_reducible refine (plaitref01_Right.calls kj10 _ _ t503 true _ ?side1 ?side2 A30.out).mono ?_); (case side1 => repeat (first | exact (Kd.V_reads' HO_0.out).2.2 | (with_reducible refine Kd.C_alloc ?_ _) | (with_reducible refine Kd.C_drewN ?_ _) | (with_reducible refine Kd.C_drew ?_))); (case side2 => exact (Kd.V_reads' HO_0.out).2.1); rintro e w' ⟨rfl, ⟨nd, rfl⟩⟩; refine ⟨_, rfl, ?_⟩) | (go_at_call 50; (with_reducible refine (plaitref01_Right.calls kj10 _ _ t506 t529 _ ?side1 ?side2 A32.out).mono ?_); (case side1 => repeat (first | exact (Kd.V_reads' HO_1.out).2.2 | (with_reducible refine Kd.C_alloc ?_ _) | (with_reducible refine Kd.C_drewN ?_ _) | (with_reducible refine Kd.C_drew ?_))); (case side2 => exact (Kd.V_reads' HO_1.out).2.1); rintro e w' ⟨rfl, ⟨nd, rfl⟩⟩))
            go_meet
            case rel => exact ⟨_, (!t529), (by first | rfl | (simp; done) | (simp [*]; done)), H', ⟨by have := HJ10.out; first | omega | exact Nat.le_refl _⟩, ⟨by (with_reducible repeat (first | apply Kd.V_alloc | apply Kd.V_drewN | apply Kd.V_drew)); exact HO_0.out⟩, ⟨by (with_reducible repeat (first | apply Kd.V_alloc | apply Kd.V_drewN | apply Kd.V_drew)); exact HO_1.out⟩, ⟨by (with_reducible repeat (first | apply Kd.R_alloc | apply Kd.R_drewN | apply Kd.R_drew)); exact HO_9.out⟩, ⟨by (with_reducible repeat (first | apply Kd.R_alloc | apply Kd.R_drewN | apply Kd.R_drew)); exact HO_11.out⟩, ⟨by (with_reducible repeat (first | apply Kd.R_alloc | apply Kd.R_drewN | apply Kd.R_drew)); exact HO_15.out⟩, ⟨by repeat (first | (with_reducible first | exact HB.out | apply below_alloc | apply pw_below_drewN | apply below_drew1) | exact HB.out)⟩⟩
          · replace c31 := Bool.eq_false_iff.mpr c31
            subst c31
            have H1 : (plaitlaw01_VclockTells.j1 kj10 t503 t506 a2 t509 t510 t511 t512 t515 t516 t519 t520 t521 t522 true) = some r := by rw [if_neg (show ¬ (false = true) by decide)] at H; exact H
            clear H
            have H := H1
            clear H1
            have H' := Aside0.mk H
            clear H
            go_wp2_with (first | ((with_reducible refine gate_callee (f := 50) rfl ?_); refine goesL_ (some 60) rfl rfl Try.func50 (by kernel_rfl) rfl #[.slice Ao14 t503.length co14] rfl (by (try simp only [List.map_toArray, List.map_cons, List.map_nil]); first | done | rfl | (simp only [List.length_drop, List.length_take]; rfl)) ?_; (with_reducible refine (plaitref01_Right.calls kj10 _ _ t503 false _ ?side1 ?side2 A30.out).mono ?_); (case side1 => repeat (first | exact (Kd.V_reads' HO_0.out).2.2 | (with_reducible refine Kd.C_alloc ?_ _) | (with_reducible refine Kd.C_drewN ?_ _) | (with_reducible refine Kd.C_drew ?_))); (case side2 => exact (Kd.V_reads' HO_0.out).2.1); rintro e w' ⟨rfl, ⟨nd, rfl⟩⟩; refine ⟨_, rfl, ?_⟩))
            go_meet
            case rel => exact ⟨_, (true), (by first | rfl | (simp; done) | (simp [*]; done)), H', ⟨by have := HJ10.out; first | omega | exact Nat.le_refl _⟩, ⟨by (with_reducible repeat (first | apply Kd.V_alloc | apply Kd.V_drewN | apply Kd.V_drew)); exact HO_0.out⟩, ⟨by (with_reducible repeat (first | apply Kd.V_alloc | apply Kd.V_drewN | apply Kd.V_drew)); exact HO_1.out⟩, ⟨by (with_reducible repeat (first | apply Kd.R_alloc | apply Kd.R_drewN | apply Kd.R_drew)); exact HO_9.out⟩, ⟨by (with_reducible repeat (first | apply Kd.R_alloc | apply Kd.R_drewN | apply Kd.R_drew)); exact HO_11.out⟩, ⟨by (with_reducible repeat (first | apply Kd.R_alloc | apply Kd.R_drewN | apply Kd.R_drew)); exact HO_15.out⟩, ⟨by repeat (first | (with_reducible first | exact HB.out | apply below_alloc | apply pw_below_drewN | apply below_drew1) | exact HB.out)⟩⟩
        case rest =>
          clear HC29
          try clear c1
          try clear c2
          try clear p2
          try clear c3
          try clear c5
          try clear c14
          try clear c23
          try clear c23b0
          try clear c23b1
          try clear c23b2
          try clear c28
          try clear c31
          try clear p2
          obtain ⟨kq, x66_28, rfl, HA, HJ28, HO_0, HO_1, HO_9, HO_11, HO_15, HB⟩ := hcut
          cases kq with
          | zero => exact absurd HA.out (by simp [plaitlaw01_VclockTells.j1])
          | succ kj28 =>
            have H := HA.out
            clear HA
            simp only [plaitlaw01_VclockTells.j1] at H
            have HC33 := Aside0.mk H
            clear H
            go_upto_if 66 with (fail)
            go_cut [] (fun wc => ∃ (kq : Nat), Aside0 (plaitlaw01_VclockTells.j2 kq t503 a2 t509 t510 t511 t512 t521 t522 = some r) ∧ Aside0 (kq ≤ kj28) ∧ Aside0 (Kd.V (Kd.int .i64) 3 wc w.heap.size (fun k_ => some k_ ≠ (v513 : Value).ownBlock ∧ some k_ ≠ (v523 : Value).ownBlock) (.slice Ao14 t503.length co14) t503) ∧ Aside0 (Kd.R (Kd.int .i64) 3 wc w.heap.size (fun k_ => some k_ ≠ (v523 : Value).ownBlock) v513 t511) ∧ Aside0 (Kd.R (Kd.int .i64) 3 wc w.heap.size (fun k_ => some k_ ≠ (v513 : Value).ownBlock) v523 t521) ∧ Aside0 (Below w.heap.size w wc))
            case first =>
              have H := HC33.out
              clear HC33
              by_cases c34 : x66_28 = true
              · subst c34
                have H1 : (if t516 = 1 then (if t520 = 1 then (if (t515.length : Int) = 0 then (if t519 = true then (some false) else (plaitlaw01_VclockTells.j2 kj28 t503 a2 t509 t510 t511 t512 t521 t522)) else (some false)) else (some false)) else (some false)) = some r := by rw [if_pos rfl] at H; exact H
                clear H
                have H := H1
                clear H1
                by_cases c35 : t516 = 1
                · rw [if_pos c35] at H
                  have c35b0 : (t516 == 1) = true := beq_iff_eq.mpr c35
                  have c35b1 : (t516 != 1) = false := bne_eq_false_iff_eq.mpr c35
                  clear c35
                  (first | rw [c35b0] | (simp only [i64_w, i32_w]; rw [c35b0]) | skip)
                  by_cases c36 : t520 = 1
                  · rw [if_pos c36] at H
                    have c36b0 : (t520 == 1) = true := beq_iff_eq.mpr c36
                    have c36b1 : (t520 != 1) = false := bne_eq_false_iff_eq.mpr c36
                    clear c36
                    by_cases c37 : (t515.length : Int) = 0
                    · rw [if_pos c37] at H
                      have c37b0 : ((t515.length : Int) == 0) = true := beq_iff_eq.mpr c37
                      have c37b1 : ((t515.length : Int) != 0) = false := bne_eq_false_iff_eq.mpr c37
                      clear c37
                      by_cases c38 : t519 = true
                      · subst c38
                        have H1 : (some false) = some r := by rw [if_pos rfl] at H; exact H
                        clear H
                        have H := H1
                        clear H1
                        exact absurd (Option.some.inj H) (by rw [hr_.out]; decide)
                      · replace c38 := Bool.eq_false_iff.mpr c38
                        subst c38
                        have H1 : (plaitlaw01_VclockTells.j2 kj28 t503 a2 t509 t510 t511 t512 t521 t522) = some r := by rw [if_neg (show ¬ (false = true) by decide)] at H; exact H
                        clear H
                        have H := H1
                        clear H1
                        have H' := Aside0.mk H
                        clear H
                        obtain ⟨Ao39, co39, eo39⟩ := Kd.R_slice HO_11.out
                        subst eo39
                        go_wp2
                        go_meet
                        case rel => exact ⟨_, H', ⟨by have := HJ10.out; have := HJ28.out; first | omega | exact Nat.le_refl _⟩, ⟨by (with_reducible repeat (first | apply Kd.V_alloc | apply Kd.V_drewN | apply Kd.V_drew)); exact Kd.V_mono HO_0.out (fun _ hk => ⟨hk.1, hk.2.2⟩)⟩, ⟨by (with_reducible repeat (first | apply Kd.R_alloc | apply Kd.R_drewN | apply Kd.R_drew)); exact Kd.R_mono HO_9.out (fun _ hk => hk.2)⟩, ⟨by (with_reducible repeat (first | apply Kd.R_alloc | apply Kd.R_drewN | apply Kd.R_drew)); exact Kd.R_mono HO_15.out (fun _ hk => hk.1)⟩, ⟨by repeat (first | (with_reducible first | exact HB.out | apply below_alloc | apply pw_below_drewN | apply below_drew1) | exact HB.out)⟩⟩
                    · rw [if_neg c37] at H
                      have c37b0 : ((t515.length : Int) == 0) = false := beq_eq_false_iff_ne.mpr c37
                      have c37b1 : ((t515.length : Int) != 0) = true := bne_iff_ne.mpr c37
                      have c37b2 : ¬ (t515 = []) := fun h_ => c37 (by rw [h_]; rfl)
                      exact absurd (Option.some.inj H) (by rw [hr_.out]; decide)
                  · rw [if_neg c36] at H
                    have c36b0 : (t520 == 1) = false := beq_eq_false_iff_ne.mpr c36
                    have c36b1 : (t520 != 1) = true := bne_iff_ne.mpr c36
                    exact absurd (Option.some.inj H) (by rw [hr_.out]; decide)
                · rw [if_neg c35] at H
                  have c35b0 : (t516 == 1) = false := beq_eq_false_iff_ne.mpr c35
                  have c35b1 : (t516 != 1) = true := bne_iff_ne.mpr c35
                  (first | rw [c35b0] | (simp only [i64_w, i32_w]; rw [c35b0]) | skip)
                  exact absurd (Option.some.inj H) (by rw [hr_.out]; decide)
              · replace c34 := Bool.eq_false_iff.mpr c34
                subst c34
                have H1 : (if t516 = 0 then (if t520 = 0 then ((plaitref01_Join.f kj28 t503 t506).bind fun t530 => ((plaitref01_Rows.f kj28 t515 t530).bind fun t533 => (if t533 = true then ((plaitref01_Leq.f kj28 t503 t506).bind fun t534 => (if (t519 != t534) = true then (some false) else (plaitlaw01_VclockTells.j2 kj28 t503 a2 t509 t510 t511 t512 t521 t522))) else (some false)))) else (some false)) else (some false)) = some r := by rw [if_neg (show ¬ (false = true) by decide)] at H; exact H
                clear H
                have H := H1
                clear H1
                by_cases c40 : t516 = 0
                · rw [if_pos c40] at H
                  have c40b0 : (t516 == 0) = true := beq_iff_eq.mpr c40
                  have c40b1 : (t516 != 0) = false := bne_eq_false_iff_eq.mpr c40
                  clear c40
                  by_cases c41 : t520 = 0
                  · rw [if_pos c41] at H
                    have c41b0 : (t520 == 0) = true := beq_iff_eq.mpr c41
                    have c41b1 : (t520 != 0) = false := bne_eq_false_iff_eq.mpr c41
                    clear c41
                    replace H := Option.bind_eq_some_iff.mp H
                    obtain ⟨t530, A420, H⟩ := H
                    replace H : ((plaitref01_Rows.f kj28 t515 t530).bind fun t533 => (if t533 = true then ((plaitref01_Leq.f kj28 t503 t506).bind fun t534 => (if (t519 != t534) = true then (some false) else (plaitlaw01_VclockTells.j2 kj28 t503 a2 t509 t510 t511 t512 t521 t522))) else (some false))) = some r := H
                    have A42 := Aside0.mk A420
                    clear A420
                    replace H := Option.bind_eq_some_iff.mp H
                    obtain ⟨t533, A430, H⟩ := H
                    replace H : (if t533 = true then ((plaitref01_Leq.f kj28 t503 t506).bind fun t534 => (if (t519 != t534) = true then (some false) else (plaitlaw01_VclockTells.j2 kj28 t503 a2 t509 t510 t511 t512 t521 t522))) else (some false)) = some r := H
                    have A43 := Aside0.mk A430
                    clear A430
                    by_cases c44 : t533 = true
                    · subst c44
                      have H1 : ((plaitref01_Leq.f kj28 t503 t506).bind fun t534 => (if (t519 != t534) = true then (some false) else (plaitlaw01_VclockTells.j2 kj28 t503 a2 t509 t510 t511 t512 t521 t522))) = some r := by rw [if_pos rfl] at H; exact H
                      clear H
                      have H := H1
                      clear H1
                      replace H := Option.bind_eq_some_iff.mp H
                      obtain ⟨t534, A450, H⟩ := H
                      replace H : (if (t519 != t534) = true then (some false) else (plaitlaw01_VclockTells.j2 kj28 t503 a2 t509 t510 t511 t512 t521 t522)) = some r := H
                      have A45 := Aside0.mk A450
                      clear A450
                      by_cases c46 : (t519 != t534) = true
                      · rw [if_pos c46] at H
                        have c46b0 : (t519 != t534) = true := c46
                        (try (have c46b1 : decide (t519 = t534) = false := by simpa using c46))
                        (try (have c46b2 : (t519 == t534) = false := by simpa using c46))
                        (try (have c46b3 : ¬ (t519 = t534) := by simpa using c46))
                        clear c46
                        exact absurd (Option.some.inj H) (by rw [hr_.out]; decide)
                      · rw [if_neg c46] at H
                        have c46b0 : (t519 != t534) = false := by simpa using c46
                        (try (have c46b1 : decide (t519 = t534) = true := by simpa using c46))
                        (try (have c46b2 : (t519 == t534) = true := by simpa using c46))
                        clear c46
                        have H' := Aside0.mk H
                        clear H
                        go_wp2_with (first | (go_at_call 55; (with_reducible refine (plaitref01_Join.calls kj28 _ _ t503 _ _ t506 t530 _ ?side1 ?side2 ?side3 ?side4 A42.out).mono ?_); (case side1 => repeat (first | exact (Kd.V_reads' HO_0.out).2.2 | (with_reducible refine Kd.C_alloc ?_ _) | (with_reducible refine Kd.C_drewN ?_ _) | (with_reducible refine Kd.C_drew ?_))); (case side2 => exact (Kd.V_reads' HO_0.out).2.1); (case side3 => repeat (first | exact (Kd.V_reads' HO_1.out).2.2 | (with_reducible refine Kd.C_alloc ?_ _) | (with_reducible refine Kd.C_drewN ?_ _) | (with_reducible refine Kd.C_drew ?_))); (case side4 => exact (Kd.V_reads' HO_1.out).2.1); rintro e w47 ⟨v531, rfl, ho0, hb⟩; have n0_ := Aside0.mk (Kd.V_elder' (by (with_reducible repeat (first | apply Kd.V_alloc | apply Kd.V_drewN | apply Kd.V_drew)); exact HO_0.out) (Kd.R_base ho0) hb); have n1_ := Aside0.mk (Kd.V_elder' (by (with_reducible repeat (first | apply Kd.V_alloc | apply Kd.V_drewN | apply Kd.V_drew)); exact HO_1.out) (Kd.R_base ho0) hb); have n2_ := Aside0.mk (Kd.R_elder' (by (with_reducible repeat (first | apply Kd.R_alloc | apply Kd.R_drewN | apply Kd.R_drew)); exact HO_9.out) (Kd.R_base ho0) hb); have n3_ := Aside0.mk (Kd.R_elder' (by (with_reducible repeat (first | apply Kd.R_alloc | apply Kd.R_drewN | apply Kd.R_drew)); exact HO_11.out) (Kd.R_base ho0) hb); have n4_ := Aside0.mk (Kd.R_elder' (by (with_reducible repeat (first | apply Kd.R_alloc | apply Kd.R_drewN | apply Kd.R_drew)); exact HO_15.out) (Kd.R_base ho0) hb); have n5_ := Aside0.mk (Kd.R_lower (Kd.R_new' (Kd.R_new' (Kd.R_new' ho0 (Kd.R_lt (by (with_reducible repeat (first | apply Kd.R_alloc | apply Kd.R_drewN | apply Kd.R_drew)); exact HO_9.out))) (Kd.R_lt (by (with_reducible repeat (first | apply Kd.R_alloc | apply Kd.R_drewN | apply Kd.R_drew)); exact HO_11.out))) (Kd.R_lt (by (with_reducible repeat (first | apply Kd.R_alloc | apply Kd.R_drewN | apply Kd.R_drew)); exact HO_15.out))) (below_size (by repeat (first | (with_reducible first | exact HB.out | apply below_alloc | apply pw_below_drewN | apply below_drew1) | exact HB.out)))); have n6_ := Aside0.mk (below_step (by repeat (first | (with_reducible first | exact HB.out | apply below_alloc | apply pw_below_drewN | apply below_drew1) | exact HB.out)) hb); clear HO_0; clear HO_1; clear HO_9; clear HO_11; clear HO_15; clear HB; have HO_0 := n0_; have HO_1 := n1_; have HO_9 := n2_; have HO_11 := n3_; have HO_15 := n4_; have HO532 := n5_; have HB := n6_; clear n0_ n1_ n2_ n3_ n4_ n5_ n6_; (try clear hb); (try clear hb2); (try clear hk); (try clear hi); (try clear ho0); obtain ⟨Ao48, co48, eo48⟩ := Kd.R_slice HO_11.out; subst eo48; obtain ⟨Ao49, co49, eo49⟩ := Kd.R_slice HO532.out; subst eo49) | (go_at_call 38; (with_reducible refine (plaitref01_Rows.calls kj28 _ _ t515 _ _ t530 true _ ?side1 ?side2 ?side3 ?side4 A43.out).mono ?_); (case side1 => repeat (first | exact (Kd.R_reads' HO_11.out).2.2 | (with_reducible refine Kd.C_alloc ?_ _) | (with_reducible refine Kd.C_drewN ?_ _) | (with_reducible refine Kd.C_drew ?_))); (case side2 => exact (Kd.R_reads' HO_11.out).2.1); (case side3 => repeat (first | exact (Kd.R_reads' HO532.out).2.2 | (with_reducible refine Kd.C_alloc ?_ _) | (with_reducible refine Kd.C_drewN ?_ _) | (with_reducible refine Kd.C_drew ?_))); (case side4 => exact (Kd.R_reads' HO532.out).2.1); rintro e w' ⟨rfl, ⟨nd, rfl⟩⟩) | (go_at_call 56; (with_reducible refine (plaitref01_Leq.calls kj28 _ _ t503 _ _ t506 t534 _ ?side1 ?side2 ?side3 ?side4 A45.out).mono ?_); (case side1 => repeat (first | exact (Kd.V_reads' HO_0.out).2.2 | (with_reducible refine Kd.C_alloc ?_ _) | (with_reducible refine Kd.C_drewN ?_ _) | (with_reducible refine Kd.C_drew ?_))); (case side2 => exact (Kd.V_reads' HO_0.out).2.1); (case side3 => repeat (first | exact (Kd.V_reads' HO_1.out).2.2 | (with_reducible refine Kd.C_alloc ?_ _) | (with_reducible refine Kd.C_drewN ?_ _) | (with_reducible refine Kd.C_drew ?_))); (case side4 => exact (Kd.V_reads' HO_1.out).2.1); rintro e w' ⟨rfl, ⟨nd, rfl⟩⟩))
                        go_meet
                        case rel => exact ⟨_, H', ⟨by have := HJ10.out; have := HJ28.out; first | omega | exact Nat.le_refl _⟩, ⟨by (with_reducible repeat (first | apply Kd.V_alloc | apply Kd.V_drewN | apply Kd.V_drew)); exact Kd.V_mono HO_0.out (fun _ hk => ⟨hk.1.1, hk.1.2.2⟩)⟩, ⟨by (with_reducible repeat (first | apply Kd.R_alloc | apply Kd.R_drewN | apply Kd.R_drew)); exact Kd.R_mono HO_9.out (fun _ hk => hk.1.2)⟩, ⟨by (with_reducible repeat (first | apply Kd.R_alloc | apply Kd.R_drewN | apply Kd.R_drew)); exact Kd.R_mono HO_15.out (fun _ hk => hk.1.1)⟩, ⟨by repeat (first | (with_reducible first | exact HB.out | apply below_alloc | apply pw_below_drewN | apply below_drew1) | exact HB.out)⟩⟩
                    · replace c44 := Bool.eq_false_iff.mpr c44
                      subst c44
                      have H1 : (some false) = some r := by rw [if_neg (show ¬ (false = true) by decide)] at H; exact H
                      clear H
                      have H := H1
                      clear H1
                      exact absurd (Option.some.inj H) (by rw [hr_.out]; decide)
                  · rw [if_neg c41] at H
                    have c41b0 : (t520 == 0) = false := beq_eq_false_iff_ne.mpr c41
                    have c41b1 : (t520 != 0) = true := bne_iff_ne.mpr c41
                    exact absurd (Option.some.inj H) (by rw [hr_.out]; decide)
                · rw [if_neg c40] at H
                  have c40b0 : (t516 == 0) = false := beq_eq_false_iff_ne.mpr c40
                  have c40b1 : (t516 != 0) = true := bne_iff_ne.mpr c40
                  exact absurd (Option.some.inj H) (by rw [hr_.out]; decide)
            case rest =>
              clear HC33
              try clear c1
              try clear c2
              try clear p2
              try clear c3
              try clear c4
              try clear c5
              try clear c14
              try clear c23
              try clear c23b0
              try clear c23b1
              try clear c23b2
              try clear c28
              try clear c31
              try clear c34
              try clear c35
              try clear c35b0
              try clear c35b1
              try clear c36
              try clear c36b0
              try clear c36b1
              try clear c37
              try clear c37b0
              try clear c37b1
              try clear c37b2
              try clear c38
              try clear c39
              try clear c40
              try clear c40b0
              try clear c40b1
              try clear c41
              try clear c41b0
              try clear c41b1
              try clear c44
              try clear c46
              try clear c46b0
              try clear c46b1
              try clear c46b2
              try clear p2
              obtain ⟨kq, HA, HJ32, HO_0, HO_9, HO_15, HB⟩ := hcut
              cases kq with
              | zero => exact absurd HA.out (by simp [plaitlaw01_VclockTells.j2])
              | succ kj32 =>
                have H := HA.out
                clear HA
                simp only [plaitlaw01_VclockTells.j2] at H
                replace H := Option.bind_eq_some_iff.mp H
                obtain ⟨t535, A500, H⟩ := H
                replace H : (if t535 = true then (if t522 = 0 then ((plaitref01_Trim.f t503).bind fun t536 => ((plaitref01_Rows.f kj32 t521 t536).bind fun t539 => (plaitlaw01_VclockTells.j3 kj32 t503 a2 t509 t510 t511 t512 (!t539)))) else (plaitlaw01_VclockTells.j3 kj32 t503 a2 t509 t510 t511 t512 true)) else (if t510 = 1 then (if t512 = 1 then (if t522 = 1 then (if t509 = 0 then (if (t511.length : Int) = 0 then (some ((t521.length : Int) == 0)) else (some false)) else (some false)) else (some false)) else (some false)) else (some false))) = some r := H
                have A50 := Aside0.mk A500
                clear A500
                by_cases c51 : t535 = true
                · subst c51
                  have H1 : (if t522 = 0 then ((plaitref01_Trim.f t503).bind fun t536 => ((plaitref01_Rows.f kj32 t521 t536).bind fun t539 => (plaitlaw01_VclockTells.j3 kj32 t503 a2 t509 t510 t511 t512 (!t539)))) else (plaitlaw01_VclockTells.j3 kj32 t503 a2 t509 t510 t511 t512 true)) = some r := by rw [if_pos rfl] at H; exact H
                  clear H
                  have H := H1
                  clear H1
                  have HC52 := Aside0.mk H
                  clear H
                  go_upto_region 16 with (first | ((with_reducible refine gate_callee (f := 50) rfl ?_); refine goesL_ (some 103) rfl rfl Try.func50 (by kernel_rfl) rfl #[.slice Ao14 t503.length co14] rfl (by (try simp only [List.map_toArray, List.map_cons, List.map_nil]); first | done | rfl | (simp only [List.length_drop, List.length_take]; rfl)) ?_; (with_reducible refine (plaitref01_Right.calls kj32 _ _ t503 true _ ?side1 ?side2 A50.out).mono ?_); (case side1 => repeat (first | exact (Kd.V_reads' HO_0.out).2.2 | (with_reducible refine Kd.C_alloc ?_ _) | (with_reducible refine Kd.C_drewN ?_ _) | (with_reducible refine Kd.C_drew ?_))); (case side2 => exact (Kd.V_reads' HO_0.out).2.1); rintro e w' ⟨rfl, ⟨nd, rfl⟩⟩; refine ⟨_, rfl, ?_⟩))
                  (try simp only [Act.put, List.setIfInBounds_toArray, List.set_cons_zero, List.set_cons_succ])
                  go_cut [137] (fun v137 wc => ∃ (kq : Nat) (x137_51 : Bool), v137 = .bool x137_51 ∧ Aside0 (plaitlaw01_VclockTells.j3 kq t503 a2 t509 t510 t511 t512 x137_51 = some r) ∧ Aside0 (kq ≤ kj32) ∧ Aside0 (Kd.V (Kd.int .i64) 3 wc w.heap.size (fun k_ => some k_ ≠ (v513 : Value).ownBlock) (.slice Ao14 t503.length co14) t503) ∧ Aside0 (Kd.R (Kd.int .i64) 3 wc w.heap.size (fun _ => True) v513 t511) ∧ Aside0 (Below w.heap.size w wc))
                  case first =>
                    have H := HC52.out
                    clear HC52
                    by_cases c53 : t522 = 0
                    · rw [if_pos c53] at H
                      have c53b0 : (t522 == 0) = true := beq_iff_eq.mpr c53
                      have c53b1 : (t522 != 0) = false := bne_eq_false_iff_eq.mpr c53
                      clear c53
                      (first | rw [c53b0] | (simp only [i64_w, i32_w]; rw [c53b0]) | skip)
                      replace H := Option.bind_eq_some_iff.mp H
                      obtain ⟨t536, A540, H⟩ := H
                      replace H : ((plaitref01_Rows.f kj32 t521 t536).bind fun t539 => (plaitlaw01_VclockTells.j3 kj32 t503 a2 t509 t510 t511 t512 (!t539))) = some r := H
                      have A54 := Aside0.mk A540
                      clear A540
                      replace H := Option.bind_eq_some_iff.mp H
                      obtain ⟨t539, A550, H⟩ := H
                      replace H : (plaitlaw01_VclockTells.j3 kj32 t503 a2 t509 t510 t511 t512 (!t539)) = some r := H
                      have A55 := Aside0.mk A550
                      clear A550
                      have H' := Aside0.mk H
                      clear H
                      go_wp2_with (first | (go_at_call 57; (with_reducible refine (plaitref01_Trim.calls _ _ t503 t536 _ ?side1 ?side2 A54.out).mono ?_); (case side1 => repeat (first | exact (Kd.V_reads' HO_0.out).2.2 | (with_reducible refine Kd.C_alloc ?_ _) | (with_reducible refine Kd.C_drewN ?_ _) | (with_reducible refine Kd.C_drew ?_))); (case side2 => exact (Kd.V_reads' HO_0.out).2.1); rintro e w56 ⟨v537, rfl, ho0, hb⟩; have n0_ := Aside0.mk (Kd.V_elder' (by (with_reducible repeat (first | apply Kd.V_alloc | apply Kd.V_drewN | apply Kd.V_drew)); exact HO_0.out) (Kd.R_base ho0) hb); have n1_ := Aside0.mk (Kd.R_elder' (by (with_reducible repeat (first | apply Kd.R_alloc | apply Kd.R_drewN | apply Kd.R_drew)); exact HO_9.out) (Kd.R_base ho0) hb); have n2_ := Aside0.mk (Kd.R_elder' (by (with_reducible repeat (first | apply Kd.R_alloc | apply Kd.R_drewN | apply Kd.R_drew)); exact HO_15.out) (Kd.R_base ho0) hb); have n3_ := Aside0.mk (Kd.R_lower (Kd.R_new' (Kd.R_new' ho0 (Kd.R_lt (by (with_reducible repeat (first | apply Kd.R_alloc | apply Kd.R_drewN | apply Kd.R_drew)); exact HO_9.out))) (Kd.R_lt (by (with_reducible repeat (first | apply Kd.R_alloc | apply Kd.R_drewN | apply Kd.R_drew)); exact HO_15.out))) (below_size (by repeat (first | (with_reducible first | exact HB.out | apply below_alloc | apply pw_below_drewN | apply below_drew1) | exact HB.out)))); have n4_ := Aside0.mk (below_step (by repeat (first | (with_reducible first | exact HB.out | apply below_alloc | apply pw_below_drewN | apply below_drew1) | exact HB.out)) hb); clear HO_0; clear HO_9; clear HO_15; clear HB; have HO_0 := n0_; have HO_9 := n1_; have HO_15 := n2_; have HO538 := n3_; have HB := n4_; clear n0_ n1_ n2_ n3_ n4_; (try clear hb); (try clear hb2); (try clear hk); (try clear hi); (try clear ho0); obtain ⟨Ao57, co57, eo57⟩ := Kd.R_slice HO_15.out; subst eo57; obtain ⟨Ao58, co58, eo58⟩ := Kd.R_slice HO538.out; subst eo58) | (go_at_call 38; (with_reducible refine (plaitref01_Rows.calls kj32 _ _ t521 _ _ t536 t539 _ ?side1 ?side2 ?side3 ?side4 A55.out).mono ?_); (case side1 => repeat (first | exact (Kd.R_reads' HO_15.out).2.2 | (with_reducible refine Kd.C_alloc ?_ _) | (with_reducible refine Kd.C_drewN ?_ _) | (with_reducible refine Kd.C_drew ?_))); (case side2 => exact (Kd.R_reads' HO_15.out).2.1); (case side3 => repeat (first | exact (Kd.R_reads' HO538.out).2.2 | (with_reducible refine Kd.C_alloc ?_ _) | (with_reducible refine Kd.C_drewN ?_ _) | (with_reducible refine Kd.C_drew ?_))); (case side4 => exact (Kd.R_reads' HO538.out).2.1); rintro e w' ⟨rfl, ⟨nd, rfl⟩⟩))
                      go_meet
                      case rel => exact ⟨_, (!t539), (by first | rfl | (simp; done) | (simp [*]; done)), H', ⟨by have := HJ10.out; have := HJ28.out; have := HJ32.out; first | omega | exact Nat.le_refl _⟩, ⟨by (with_reducible repeat (first | apply Kd.V_alloc | apply Kd.V_drewN | apply Kd.V_drew)); exact Kd.V_mono HO_0.out (fun _ hk => hk.1.1)⟩, ⟨by (with_reducible repeat (first | apply Kd.R_alloc | apply Kd.R_drewN | apply Kd.R_drew)); exact Kd.R_mono HO_9.out (fun _ hk => trivial)⟩, ⟨by repeat (first | (with_reducible first | exact HB.out | apply below_alloc | apply pw_below_drewN | apply below_drew1) | exact HB.out)⟩⟩
                    · rw [if_neg c53] at H
                      have c53b0 : (t522 == 0) = false := beq_eq_false_iff_ne.mpr c53
                      have c53b1 : (t522 != 0) = true := bne_iff_ne.mpr c53
                      (first | rw [c53b0] | (simp only [i64_w, i32_w]; rw [c53b0]) | skip)
                      have H' := Aside0.mk H
                      clear H
                      go_wp2
                      go_meet
                      case rel => exact ⟨_, (true), (by first | rfl | (simp; done) | (simp [*]; done)), H', ⟨by have := HJ10.out; have := HJ28.out; have := HJ32.out; first | omega | exact Nat.le_refl _⟩, ⟨by (with_reducible repeat (first | apply Kd.V_alloc | apply Kd.V_drewN | apply Kd.V_drew)); exact Kd.V_mono HO_0.out (fun _ hk => hk.1)⟩, ⟨by (with_reducible repeat (first | apply Kd.R_alloc | apply Kd.R_drewN | apply Kd.R_drew)); exact Kd.R_mono HO_9.out (fun _ hk => trivial)⟩, ⟨by repeat (first | (with_reducible first | exact HB.out | apply below_alloc | apply pw_below_drewN | apply below_drew1) | exact HB.out)⟩⟩
                  case rest =>
                    clear HC52
                    try clear c1
                    try clear c2
                    try clear p2
                    try clear c3
                    try clear c4
                    try clear c5
                    try clear c14
                    try clear c23
                    try clear c23b0
                    try clear c23b1
                    try clear c23b2
                    try clear c28
                    try clear c31
                    try clear c34
                    try clear c35
                    try clear c35b0
                    try clear c35b1
                    try clear c36
                    try clear c36b0
                    try clear c36b1
                    try clear c37
                    try clear c37b0
                    try clear c37b1
                    try clear c37b2
                    try clear c38
                    try clear c39
                    try clear c40
                    try clear c40b0
                    try clear c40b1
                    try clear c41
                    try clear c41b0
                    try clear c41b1
                    try clear c44
                    try clear c46
                    try clear c46b0
                    try clear c46b1
                    try clear c46b2
                    try clear c50
                    try clear c51
                    try clear c52
                    try clear c53
                    try clear c53b0
                    try clear c53b1
                    try clear c54
                    try clear p2
                    obtain ⟨kq, x137_51, rfl, HA, HJ51, HO_0, HO_9, HB⟩ := hcut
                    cases kq with
                    | zero => exact absurd HA.out (by simp [plaitlaw01_VclockTells.j3])
                    | succ kj51 =>
                      have H := HA.out
                      clear HA
                      simp only [plaitlaw01_VclockTells.j3] at H
                      by_cases c59 : x137_51 = true
                      · subst c59
                        have H1 : (some false) = some r := by rw [if_pos rfl] at H; exact H
                        clear H
                        have H := H1
                        clear H1
                        exact absurd (Option.some.inj H) (by rw [hr_.out]; decide)
                      · replace c59 := Bool.eq_false_iff.mpr c59
                        subst c59
                        have H1 : (if a2 < 0 then (plaitlaw01_VclockTells.j4 kj51 t503 a2 t509 t510 t511 t512 true) else (plaitlaw01_VclockTells.j4 kj51 t503 a2 t509 t510 t511 t512 (decide (a2 > 15)))) = some r := by rw [if_neg (show ¬ (false = true) by decide)] at H; exact H
                        clear H
                        have H := H1
                        clear H1
                        have HC60 := Aside0.mk H
                        clear H
                        go_upto_region 18 with (fail)
                        go_cut [143] (fun v143 wc => ∃ (kq : Nat) (x143_59 : Bool), v143 = .bool x143_59 ∧ Aside0 (plaitlaw01_VclockTells.j4 kq t503 a2 t509 t510 t511 t512 x143_59 = some r) ∧ Aside0 (kq ≤ kj51) ∧ Aside0 (Kd.V (Kd.int .i64) 3 wc w.heap.size (fun k_ => some k_ ≠ (v513 : Value).ownBlock) (.slice Ao14 t503.length co14) t503) ∧ Aside0 (Kd.R (Kd.int .i64) 3 wc w.heap.size (fun _ => True) v513 t511) ∧ Aside0 (Below w.heap.size w wc))
                        case first =>
                          have H := HC60.out
                          clear HC60
                          by_cases c61 : a2 < 0
                          · rw [if_pos c61] at H
                            have c61b0 : decide (a2 < 0) = true := decide_eq_true c61
                            clear c61
                            (first | rw [c61b0] | (simp only [i64_w, i32_w]; rw [c61b0]) | skip)
                            have H' := Aside0.mk H
                            clear H
                            go_wp2
                            go_meet
                            case rel => exact ⟨_, (true), (by first | rfl | (simp; done) | (simp [*]; done)), H', ⟨by have := HJ10.out; have := HJ28.out; have := HJ32.out; have := HJ51.out; first | omega | exact Nat.le_refl _⟩, ⟨by (with_reducible repeat (first | apply Kd.V_alloc | apply Kd.V_drewN | apply Kd.V_drew)); exact HO_0.out⟩, ⟨by (with_reducible repeat (first | apply Kd.R_alloc | apply Kd.R_drewN | apply Kd.R_drew)); exact HO_9.out⟩, ⟨by repeat (first | (with_reducible first | exact HB.out | apply below_alloc | apply pw_below_drewN | apply below_drew1) | exact HB.out)⟩⟩
                          · rw [if_neg c61] at H
                            have c61b0 : decide (a2 < 0) = false := decide_eq_false c61
                            clear c61
                            (first | rw [c61b0] | (simp only [i64_w, i32_w]; rw [c61b0]) | skip)
                            have H' := Aside0.mk H
                            clear H
                            go_wp2
                            go_meet
                            case rel => exact ⟨_, (decide (a2 > 15)), (by first | rfl | (simp; done) | (simp [*]; done)), H', ⟨by have := HJ10.out; have := HJ28.out; have := HJ32.out; have := HJ51.out; first | omega | exact Nat.le_refl _⟩, ⟨by (with_reducible repeat (first | apply Kd.V_alloc | apply Kd.V_drewN | apply Kd.V_drew)); exact HO_0.out⟩, ⟨by (with_reducible repeat (first | apply Kd.R_alloc | apply Kd.R_drewN | apply Kd.R_drew)); exact HO_9.out⟩, ⟨by repeat (first | (with_reducible first | exact HB.out | apply below_alloc | apply pw_below_drewN | apply below_drew1) | exact HB.out)⟩⟩
                        case rest =>
                          clear HC60
                          try clear c1
                          try clear c2
                          try clear p2
                          try clear c3
                          try clear c4
                          try clear c5
                          try clear c6
                          try clear c14
                          try clear c23
                          try clear c23b0
                          try clear c23b1
                          try clear c23b2
                          try clear c28
                          try clear c31
                          try clear c34
                          try clear c35
                          try clear c35b0
                          try clear c35b1
                          try clear c36
                          try clear c36b0
                          try clear c36b1
                          try clear c37
                          try clear c37b0
                          try clear c37b1
                          try clear c37b2
                          try clear c38
                          try clear c39
                          try clear c40
                          try clear c40b0
                          try clear c40b1
                          try clear c41
                          try clear c41b0
                          try clear c41b1
                          try clear c44
                          try clear c46
                          try clear c46b0
                          try clear c46b1
                          try clear c46b2
                          try clear c50
                          try clear c51
                          try clear c52
                          try clear c53
                          try clear c53b0
                          try clear c53b1
                          try clear c54
                          try clear c59
                          try clear c61
                          try clear c61b0
                          try clear p2
                          obtain ⟨kq, x143_59, rfl, HA, HJ59, HO_0, HO_9, HB⟩ := hcut
                          cases kq with
                          | zero => exact absurd HA.out (by simp [plaitlaw01_VclockTells.j4])
                          | succ kj59 =>
                            have H := HA.out
                            clear HA
                            simp only [plaitlaw01_VclockTells.j4] at H
                            by_cases c62 : x143_59 = true
                            · subst c62
                              have H1 : (if t510 = 3 then (if t512 = 3 then (if t509 = 0 then (some ((t511.length : Int) == 0)) else (some false)) else (some false)) else (some false)) = some r := by rw [if_pos rfl] at H; exact H
                              clear H
                              have H := H1
                              clear H1
                              by_cases c63 : t510 = 3
                              · rw [if_pos c63] at H
                                have c63b0 : (t510 == 3) = true := beq_iff_eq.mpr c63
                                have c63b1 : (t510 != 3) = false := bne_eq_false_iff_eq.mpr c63
                                clear c63
                                by_cases c64 : t512 = 3
                                · rw [if_pos c64] at H
                                  have c64b0 : (t512 == 3) = true := beq_iff_eq.mpr c64
                                  have c64b1 : (t512 != 3) = false := bne_eq_false_iff_eq.mpr c64
                                  clear c64
                                  by_cases c65 : t509 = 0
                                  · rw [if_pos c65] at H
                                    have c65b0 : (t509 == 0) = true := beq_iff_eq.mpr c65
                                    have c65b1 : (t509 != 0) = false := bne_eq_false_iff_eq.mpr c65
                                    clear c65
                                    obtain rfl := Option.some.inj H
                                    obtain ⟨Ao66, co66, eo66⟩ := Kd.R_slice HO_9.out
                                    subst eo66
                                    go_wp2
                                    go_ret
                                    exact ⟨by first | rfl | (simp [errW_none, errW_some] <;> rfl) | (simp [*, errW_none, errW_some] <;> rfl), by repeat (first | (with_reducible first | exact HB.out | apply below_alloc | apply pw_below_drewN | apply below_drew1) | exact HB.out)⟩
                                  · rw [if_neg c65] at H
                                    have c65b0 : (t509 == 0) = false := beq_eq_false_iff_ne.mpr c65
                                    have c65b1 : (t509 != 0) = true := bne_iff_ne.mpr c65
                                    exact absurd (Option.some.inj H) (by rw [hr_.out]; decide)
                                · rw [if_neg c64] at H
                                  have c64b0 : (t512 == 3) = false := beq_eq_false_iff_ne.mpr c64
                                  have c64b1 : (t512 != 3) = true := bne_iff_ne.mpr c64
                                  exact absurd (Option.some.inj H) (by rw [hr_.out]; decide)
                              · rw [if_neg c63] at H
                                have c63b0 : (t510 == 3) = false := beq_eq_false_iff_ne.mpr c63
                                have c63b1 : (t510 != 3) = true := bne_iff_ne.mpr c63
                                exact absurd (Option.some.inj H) (by rw [hr_.out]; decide)
                            · replace c62 := Bool.eq_false_iff.mpr c62
                              subst c62
                              have H1 : (if t510 = 0 then ((plaitref01_At.f t503 a2).bind fun t540 => (plaitlaw01_VclockTells.j5 kj59 t503 a2 t509 t511 t512 (t509 != t540))) else (plaitlaw01_VclockTells.j5 kj59 t503 a2 t509 t511 t512 true)) = some r := by rw [if_neg (show ¬ (false = true) by decide)] at H; exact H
                              clear H
                              have H := H1
                              clear H1
                              have HC67 := Aside0.mk H
                              clear H
                              go_upto_region 20 with (fail)
                              go_cut [167] (fun v167 wc => ∃ (kq : Nat) (x167_66 : Bool), v167 = .bool x167_66 ∧ Aside0 (plaitlaw01_VclockTells.j5 kq t503 a2 t509 t511 t512 x167_66 = some r) ∧ Aside0 (kq ≤ kj59) ∧ Aside0 (Kd.V (Kd.int .i64) 3 wc w.heap.size (fun k_ => some k_ ≠ (v513 : Value).ownBlock) (.slice Ao14 t503.length co14) t503) ∧ Aside0 (Kd.R (Kd.int .i64) 3 wc w.heap.size (fun _ => True) v513 t511) ∧ Aside0 (Below w.heap.size w wc))
                              case first =>
                                have H := HC67.out
                                clear HC67
                                by_cases c68 : t510 = 0
                                · rw [if_pos c68] at H
                                  have c68b0 : (t510 == 0) = true := beq_iff_eq.mpr c68
                                  have c68b1 : (t510 != 0) = false := bne_eq_false_iff_eq.mpr c68
                                  clear c68
                                  (first | rw [c68b0] | (simp only [i64_w, i32_w]; rw [c68b0]) | skip)
                                  replace H := Option.bind_eq_some_iff.mp H
                                  obtain ⟨t540, A690, H⟩ := H
                                  replace H : (plaitlaw01_VclockTells.j5 kj59 t503 a2 t509 t511 t512 (t509 != t540)) = some r := H
                                  have A69 := Aside0.mk A690
                                  clear A690
                                  have H' := Aside0.mk H
                                  clear H
                                  go_wp2_with (first | (go_at_call 58; (with_reducible refine (plaitref01_At.calls _ _ t503 a2 t540 _ ?side1 ?side2 A69.out).mono ?_); (case side1 => repeat (first | exact (Kd.V_reads' HO_0.out).2.2 | (with_reducible refine Kd.C_alloc ?_ _) | (with_reducible refine Kd.C_drewN ?_ _) | (with_reducible refine Kd.C_drew ?_))); (case side2 => exact (Kd.V_reads' HO_0.out).2.1); rintro e w' ⟨rfl, ⟨nd, rfl⟩⟩))
                                  go_meet
                                  case rel => exact ⟨_, ((t509 != t540)), (by first | rfl | (simp; done) | (simp [*]; done)), H', ⟨by have := HJ10.out; have := HJ28.out; have := HJ32.out; have := HJ51.out; have := HJ59.out; first | omega | exact Nat.le_refl _⟩, ⟨by (with_reducible repeat (first | apply Kd.V_alloc | apply Kd.V_drewN | apply Kd.V_drew)); exact HO_0.out⟩, ⟨by (with_reducible repeat (first | apply Kd.R_alloc | apply Kd.R_drewN | apply Kd.R_drew)); exact HO_9.out⟩, ⟨by repeat (first | (with_reducible first | exact HB.out | apply below_alloc | apply pw_below_drewN | apply below_drew1) | exact HB.out)⟩⟩
                                · rw [if_neg c68] at H
                                  have c68b0 : (t510 == 0) = false := beq_eq_false_iff_ne.mpr c68
                                  have c68b1 : (t510 != 0) = true := bne_iff_ne.mpr c68
                                  (first | rw [c68b0] | (simp only [i64_w, i32_w]; rw [c68b0]) | skip)
                                  have H' := Aside0.mk H
                                  clear H
                                  go_wp2
                                  go_meet
                                  case rel => exact ⟨_, (true), (by first | rfl | (simp; done) | (simp [*]; done)), H', ⟨by have := HJ10.out; have := HJ28.out; have := HJ32.out; have := HJ51.out; have := HJ59.out; first | omega | exact Nat.le_refl _⟩, ⟨by (with_reducible repeat (first | apply Kd.V_alloc | apply Kd.V_drewN | apply Kd.V_drew)); exact HO_0.out⟩, ⟨by (with_reducible repeat (first | apply Kd.R_alloc | apply Kd.R_drewN | apply Kd.R_drew)); exact HO_9.out⟩, ⟨by repeat (first | (with_reducible first | exact HB.out | apply below_alloc | apply pw_below_drewN | apply below_drew1) | exact HB.out)⟩⟩
                              case rest =>
                                clear HC67
                                try clear c1
                                try clear c2
                                try clear p2
                                try clear c3
                                try clear c4
                                try clear c5
                                try clear c6
                                try clear c14
                                try clear c23
                                try clear c23b0
                                try clear c23b1
                                try clear c23b2
                                try clear c28
                                try clear c31
                                try clear c34
                                try clear c35
                                try clear c35b0
                                try clear c35b1
                                try clear c36
                                try clear c36b0
                                try clear c36b1
                                try clear c37
                                try clear c37b0
                                try clear c37b1
                                try clear c37b2
                                try clear c38
                                try clear c39
                                try clear c40
                                try clear c40b0
                                try clear c40b1
                                try clear c41
                                try clear c41b0
                                try clear c41b1
                                try clear c44
                                try clear c46
                                try clear c46b0
                                try clear c46b1
                                try clear c46b2
                                try clear c50
                                try clear c51
                                try clear c52
                                try clear c53
                                try clear c53b0
                                try clear c53b1
                                try clear c54
                                try clear c59
                                try clear c61
                                try clear c61b0
                                try clear c62
                                try clear c63
                                try clear c63b0
                                try clear c63b1
                                try clear c64
                                try clear c64b0
                                try clear c64b1
                                try clear c65
                                try clear c65b0
                                try clear c65b1
                                try clear c68
                                try clear c68b0
                                try clear c68b1
                                try clear p2
                                obtain ⟨kq, x167_66, rfl, HA, HJ66, HO_0, HO_9, HB⟩ := hcut
                                cases kq with
                                | zero => exact absurd HA.out (by simp [plaitlaw01_VclockTells.j5])
                                | succ kj66 =>
                                  have H := HA.out
                                  clear HA
                                  simp only [plaitlaw01_VclockTells.j5] at H
                                  by_cases c70 : x167_66 = true
                                  · subst c70
                                    have H1 : (some false) = some r := by rw [if_pos rfl] at H; exact H
                                    clear H
                                    have H := H1
                                    clear H1
                                    exact absurd (Option.some.inj H) (by rw [hr_.out]; decide)
                                  · replace c70 := Bool.eq_false_iff.mpr c70
                                    subst c70
                                    have H1 : (if t509 = 1099511627776 then (if t512 = 8 then (some ((t511.length : Int) == 0)) else (some false)) else (if t512 = 0 then ((plaitref01_Tick.f kj66 t503 a2).bind fun t541 => ((plaitref01_Rows.f kj66 t511 t541).bind fun t544 => (some t544))) else (some false))) = some r := by rw [if_neg (show ¬ (false = true) by decide)] at H; exact H
                                    clear H
                                    have H := H1
                                    clear H1
                                    by_cases c71 : t509 = 1099511627776
                                    · rw [if_pos c71] at H
                                      have c71b0 : (t509 == 1099511627776) = true := beq_iff_eq.mpr c71
                                      have c71b1 : (t509 != 1099511627776) = false := bne_eq_false_iff_eq.mpr c71
                                      clear c71
                                      by_cases c72 : t512 = 8
                                      · rw [if_pos c72] at H
                                        have c72b0 : (t512 == 8) = true := beq_iff_eq.mpr c72
                                        have c72b1 : (t512 != 8) = false := bne_eq_false_iff_eq.mpr c72
                                        clear c72
                                        obtain rfl := Option.some.inj H
                                        obtain ⟨Ao73, co73, eo73⟩ := Kd.R_slice HO_9.out
                                        subst eo73
                                        go_wp2
                                        go_ret
                                        exact ⟨by first | rfl | (simp [errW_none, errW_some] <;> rfl) | (simp [*, errW_none, errW_some] <;> rfl), by repeat (first | (with_reducible first | exact HB.out | apply below_alloc | apply pw_below_drewN | apply below_drew1) | exact HB.out)⟩
                                      · rw [if_neg c72] at H
                                        have c72b0 : (t512 == 8) = false := beq_eq_false_iff_ne.mpr c72
                                        have c72b1 : (t512 != 8) = true := bne_iff_ne.mpr c72
                                        exact absurd (Option.some.inj H) (by rw [hr_.out]; decide)
                                    · rw [if_neg c71] at H
                                      have c71b0 : (t509 == 1099511627776) = false := beq_eq_false_iff_ne.mpr c71
                                      have c71b1 : (t509 != 1099511627776) = true := bne_iff_ne.mpr c71
                                      by_cases c74 : t512 = 0
                                      · rw [if_pos c74] at H
                                        have c74b0 : (t512 == 0) = true := beq_iff_eq.mpr c74
                                        have c74b1 : (t512 != 0) = false := bne_eq_false_iff_eq.mpr c74
                                        clear c74
                                        replace H := Option.bind_eq_some_iff.mp H
                                        obtain ⟨t541, A750, H⟩ := H
                                        replace H : ((plaitref01_Rows.f kj66 t511 t541).bind fun t544 => (some t544)) = some r := H
                                        have A75 := Aside0.mk A750
                                        clear A750
                                        replace H := Option.bind_eq_some_iff.mp H
                                        obtain ⟨t544, A760, H⟩ := H
                                        replace H : (some t544) = some r := H
                                        have A76 := Aside0.mk A760
                                        clear A760
                                        obtain rfl := Option.some.inj H
                                        go_wp2_with (first | (go_at_call 59; (with_reducible refine (plaitref01_Tick.calls kj66 _ _ t503 a2 t541 _ ?side1 ?side2 A75.out).mono ?_); (case side1 => repeat (first | exact (Kd.V_reads' HO_0.out).2.2 | (with_reducible refine Kd.C_alloc ?_ _) | (with_reducible refine Kd.C_drewN ?_ _) | (with_reducible refine Kd.C_drew ?_))); (case side2 => exact (Kd.V_reads' HO_0.out).2.1); rintro e w77 ⟨v542, rfl, ho0, hb⟩; have n0_ := Aside0.mk (Kd.V_elder' (by (with_reducible repeat (first | apply Kd.V_alloc | apply Kd.V_drewN | apply Kd.V_drew)); exact HO_0.out) (Kd.R_base ho0) hb); have n1_ := Aside0.mk (Kd.R_elder' (by (with_reducible repeat (first | apply Kd.R_alloc | apply Kd.R_drewN | apply Kd.R_drew)); exact HO_9.out) (Kd.R_base ho0) hb); have n2_ := Aside0.mk (Kd.R_lower (Kd.R_new' ho0 (Kd.R_lt (by (with_reducible repeat (first | apply Kd.R_alloc | apply Kd.R_drewN | apply Kd.R_drew)); exact HO_9.out))) (below_size (by repeat (first | (with_reducible first | exact HB.out | apply below_alloc | apply pw_below_drewN | apply below_drew1) | exact HB.out)))); have n3_ := Aside0.mk (below_step (by repeat (first | (with_reducible first | exact HB.out | apply below_alloc | apply pw_below_drewN | apply below_drew1) | exact HB.out)) hb); clear HO_0; clear HO_9; clear HB; have HO_0 := n0_; have HO_9 := n1_; have HO543 := n2_; have HB := n3_; clear n0_ n1_ n2_ n3_; (try clear hb); (try clear hb2); (try clear hk); (try clear hi); (try clear ho0); obtain ⟨Ao78, co78, eo78⟩ := Kd.R_slice HO_9.out; subst eo78; obtain ⟨Ao79, co79, eo79⟩ := Kd.R_slice HO543.out; subst eo79) | (go_at_call 38; (with_reducible refine (plaitref01_Rows.calls kj66 _ _ t511 _ _ t541 t544 _ ?side1 ?side2 ?side3 ?side4 A76.out).mono ?_); (case side1 => repeat (first | exact (Kd.R_reads' HO_9.out).2.2 | (with_reducible refine Kd.C_alloc ?_ _) | (with_reducible refine Kd.C_drewN ?_ _) | (with_reducible refine Kd.C_drew ?_))); (case side2 => exact (Kd.R_reads' HO_9.out).2.1); (case side3 => repeat (first | exact (Kd.R_reads' HO543.out).2.2 | (with_reducible refine Kd.C_alloc ?_ _) | (with_reducible refine Kd.C_drewN ?_ _) | (with_reducible refine Kd.C_drew ?_))); (case side4 => exact (Kd.R_reads' HO543.out).2.1); rintro e w' ⟨rfl, ⟨nd, rfl⟩⟩))
                                        go_ret
                                        exact ⟨by first | rfl | (simp [errW_none, errW_some] <;> rfl) | (simp [*, errW_none, errW_some] <;> rfl), by repeat (first | (with_reducible first | exact HB.out | apply below_alloc | apply pw_below_drewN | apply below_drew1) | exact HB.out)⟩
                                      · rw [if_neg c74] at H
                                        have c74b0 : (t512 == 0) = false := beq_eq_false_iff_ne.mpr c74
                                        have c74b1 : (t512 != 0) = true := bne_iff_ne.mpr c74
                                        exact absurd (Option.some.inj H) (by rw [hr_.out]; decide)
                · replace c51 := Bool.eq_false_iff.mpr c51
                  subst c51
                  have H1 : (if t510 = 1 then (if t512 = 1 then (if t522 = 1 then (if t509 = 0 then (if (t511.length : Int) = 0 then (some ((t521.length : Int) == 0)) else (some false)) else (some false)) else (some false)) else (some false)) else (some false)) = some r := by rw [if_neg (show ¬ (false = true) by decide)] at H; exact H
                  clear H
                  have H := H1
                  clear H1
                  by_cases c80 : t510 = 1
                  · rw [if_pos c80] at H
                    have c80b0 : (t510 == 1) = true := beq_iff_eq.mpr c80
                    have c80b1 : (t510 != 1) = false := bne_eq_false_iff_eq.mpr c80
                    clear c80
                    by_cases c81 : t512 = 1
                    · rw [if_pos c81] at H
                      have c81b0 : (t512 == 1) = true := beq_iff_eq.mpr c81
                      have c81b1 : (t512 != 1) = false := bne_eq_false_iff_eq.mpr c81
                      clear c81
                      by_cases c82 : t522 = 1
                      · rw [if_pos c82] at H
                        have c82b0 : (t522 == 1) = true := beq_iff_eq.mpr c82
                        have c82b1 : (t522 != 1) = false := bne_eq_false_iff_eq.mpr c82
                        clear c82
                        by_cases c83 : t509 = 0
                        · rw [if_pos c83] at H
                          have c83b0 : (t509 == 0) = true := beq_iff_eq.mpr c83
                          have c83b1 : (t509 != 0) = false := bne_eq_false_iff_eq.mpr c83
                          clear c83
                          by_cases c84 : (t511.length : Int) = 0
                          · rw [if_pos c84] at H
                            have c84b0 : ((t511.length : Int) == 0) = true := beq_iff_eq.mpr c84
                            have c84b1 : ((t511.length : Int) != 0) = false := bne_eq_false_iff_eq.mpr c84
                            clear c84
                            obtain rfl := Option.some.inj H
                            go_wp2_with (first | ((with_reducible refine gate_callee (f := 50) rfl ?_); refine goesL_ (some 103) rfl rfl Try.func50 (by kernel_rfl) rfl #[.slice Ao14 t503.length co14] rfl (by (try simp only [List.map_toArray, List.map_cons, List.map_nil]); first | done | rfl | (simp only [List.length_drop, List.length_take]; rfl)) ?_; (with_reducible refine (plaitref01_Right.calls kj32 _ _ t503 false _ ?side1 ?side2 A50.out).mono ?_); (case side1 => repeat (first | exact (Kd.V_reads' HO_0.out).2.2 | (with_reducible refine Kd.C_alloc ?_ _) | (with_reducible refine Kd.C_drewN ?_ _) | (with_reducible refine Kd.C_drew ?_))); (case side2 => exact (Kd.V_reads' HO_0.out).2.1); rintro e w' ⟨rfl, ⟨nd, rfl⟩⟩; refine ⟨_, rfl, ?_⟩; obtain ⟨Ao85, co85, eo85⟩ := Kd.R_slice HO_9.out; subst eo85; obtain ⟨Ao86, co86, eo86⟩ := Kd.R_slice HO_15.out; subst eo86))
                            go_ret
                            exact ⟨by first | rfl | (simp [errW_none, errW_some] <;> rfl) | (simp [*, errW_none, errW_some] <;> rfl), by repeat (first | (with_reducible first | exact HB.out | apply below_alloc | apply pw_below_drewN | apply below_drew1) | exact HB.out)⟩
                          · rw [if_neg c84] at H
                            have c84b0 : ((t511.length : Int) == 0) = false := beq_eq_false_iff_ne.mpr c84
                            have c84b1 : ((t511.length : Int) != 0) = true := bne_iff_ne.mpr c84
                            have c84b2 : ¬ (t511 = []) := fun h_ => c84 (by rw [h_]; rfl)
                            exact absurd (Option.some.inj H) (by rw [hr_.out]; decide)
                        · rw [if_neg c83] at H
                          have c83b0 : (t509 == 0) = false := beq_eq_false_iff_ne.mpr c83
                          have c83b1 : (t509 != 0) = true := bne_iff_ne.mpr c83
                          exact absurd (Option.some.inj H) (by rw [hr_.out]; decide)
                      · rw [if_neg c82] at H
                        have c82b0 : (t522 == 1) = false := beq_eq_false_iff_ne.mpr c82
                        have c82b1 : (t522 != 1) = true := bne_iff_ne.mpr c82
                        exact absurd (Option.some.inj H) (by rw [hr_.out]; decide)
                    · rw [if_neg c81] at H
                      have c81b0 : (t512 == 1) = false := beq_eq_false_iff_ne.mpr c81
                      have c81b1 : (t512 != 1) = true := bne_iff_ne.mpr c81
                      exact absurd (Option.some.inj H) (by rw [hr_.out]; decide)
                  · rw [if_neg c80] at H
                    have c80b0 : (t510 == 1) = false := beq_eq_false_iff_ne.mpr c80
                    have c80b1 : (t510 != 1) = true := bne_iff_ne.mpr c80
                    exact absurd (Option.some.inj H) (by rw [hr_.out]; decide)

/-- THE ONE PURE STATEMENT of plaitlaw01_VclockTells: yours. -/
def plaitlaw01_VclockTells.Pure : Prop := ∀ (l0 : List Int) (l1 : List Int) (a2 : Int), l0.length ≤ maxLen → l0.length * 8 ≤ 140737488351232 → (∀ x ∈ l0, (Lit.int .i64 x).wf = true) → l1.length ≤ maxLen → l1.length * 8 ≤ 140737488351232 → (∀ x ∈ l1, (Lit.int .i64 x).wf = true) → (Lit.int .i64 a2).wf = true → ∃ k, plaitlaw01_VclockTells.f k l0 l1 a2 = some true
theorem plaitlaw01_VclockTells.walk (P : plaitlaw01_VclockTells.Pure) (a0 : Option Addr) (len0 cap0 : Nat) (z0 : List Int) (a1 : Option Addr) (len1 cap1 : Nat) (z1 : List Int) (a2 : Int) (w : World) (w0 : (a0 = none ∧ len0 = 0 ∧ cap0 = 0 ∧ z0 = []) ∨ ∃ x, a0 = some x ∧ len0 ≤ cap0 ∧ cap0 ≤ maxLen ∧ z0.length = cap0 ∧ (∀ i, i < z0.length → w.cell? (x.add i) = some (.int .i64 (z0.getD i 0))) ∧ ∀ n ∈ z0, (Lit.int .i64 n).wf = true) (y0 : len0 * 8 ≤ 140737488351232) (w1 : (a1 = none ∧ len1 = 0 ∧ cap1 = 0 ∧ z1 = []) ∨ ∃ x, a1 = some x ∧ len1 ≤ cap1 ∧ cap1 ≤ maxLen ∧ z1.length = cap1 ∧ (∀ i, i < z1.length → w.cell? (x.add i) = some (.int .i64 (z1.getD i 0))) ∧ ∀ n ∈ z1, (Lit.int .i64 n).wf = true) (y1 : len1 * 8 ≤ 140737488351232) (w2 : (Lit.int .i64 a2).wf = true) :
    Calls Try.prog 14 #[.slice a0 len0 cap0, .slice a1 len1 cap1, .int .i64 a2] w fun e w' => e = .returned (.bool true) ∧ Below w.heap.size w w' := by
  obtain ⟨l0, rfl, hr0, hm0, hw0, hc0⟩ := ReadsInt.ofRowC w0
  obtain ⟨l1, rfl, hr1, hm1, hw1, hc1⟩ := ReadsInt.ofRowC w1
  obtain ⟨k, h⟩ := P l0 l1 a2 hm0 y0 hw0 hm1 y1 hw1 w2
  refine (plaitlaw01_VclockTells.calls k _ _ l0 _ _ l1 a2 true w (Kd.C_of_reads (d := (0 : Int)) (h1 := fun _ => rfl) hr0) hc0 (Kd.C_of_reads (d := (0 : Int)) (h1 := fun _ => rfl) hr1) hc1 h ⟨rfl⟩).mono ?_
  rintro e w' ⟨rfl, hd⟩
  exact ⟨rfl, hd⟩

end Go.Proofs.Ytipmoncamnafbaa.X
