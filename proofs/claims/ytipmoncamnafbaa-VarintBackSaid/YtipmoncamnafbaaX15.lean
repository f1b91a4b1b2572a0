/- Contracts of functions, and walks of laws, written by this session's own program (wip/tools/xprint.py, a driver round the kit's print) out of Lean's print of the loaded program. Lean checks them. -/
import Derived.Test.YtipmoncamnafbaaX0
import Derived.Test.YtipmoncamnafbaaX8
import Derived.Test.YtipmoncamnafbaaX13
import Derived.Test.YtipmoncamnafbaaGiven
namespace Go.Proofs.Ytipmoncamnafbaa.X
open Go.RowKit Go.Proofs.YtipmoncamnafbaaW.PrintWords Go.Proofs.YtipmoncamnafbaaW.PrintLast Go.Proofs.YtipmoncamnafbaaW.PrintMore
attribute [local go_sem] max2_int min2_int max_two min_two max_three min_three max_four min_four   -- for this text's walks alone
set_option linter.unusedVariables false
set_option linter.unusedSimpArgs false

/-! ### plaitlaw03_VarintBack: function 12 -/
mutual
def plaitlaw03_VarintBack.j0 : Nat → List Int → ByteArray → Int → Bool → Option (Bool)
  | 0, _, _, _, _ => none
  | k + 1, x1, x2, x3, x114 => if x114 = true then (some false) else ((varint_Get.f k x2 x3).bind fun bt311 => (if bt311.2.2 = 0 then ((varint_Put.f bt311.1).bind fun bt314 => (if bt314.2 = 0 then (if x3 < 0 then (some false) else (if bt311.2.1 > (x2.size : Int) then (some false) else (if bt311.2.1 < x3 then (some false) else (if 0 ≤ x3 then (if x3 ≤ bt311.2.1 then (if bt311.2.1 ≤ (x2.size : Int) then (if bt314.1.toList = (x2.extract (x3 : Int).toNat (bt311.2.1 : Int).toNat).toList then (plaitlaw03_VarintBack.j1 k x1 x2) else (some false)) else (none)) else (none)) else (none))))) else (some false))) else (plaitlaw03_VarintBack.j1 k x1 x2)))
def plaitlaw03_VarintBack.j1 : Nat → List Int → ByteArray → Option (Bool)
  | 0, _, _ => none
  | k + 1, x1, x2 => (varint_Every.f k x2).bind fun bt316 => (if bt316.2 = 0 then ((varint_All.f k bt316.1).bind fun bt320 => (if bt320.2 = 0 then (if bt320.1.toList = x2.toList then (plaitlaw03_VarintBack.j2 k x1) else (some false)) else (some false))) else (plaitlaw03_VarintBack.j2 k x1))
def plaitlaw03_VarintBack.j2 : Nat → List Int → Option (Bool)
  | 0, _ => none
  | k + 1, x1 => if 0 ≤ (mn (x1.length : Int) 60) then (if (mn (x1.length : Int) 60) ≤ (x1.length : Int) then (plaitlaw03_VarintBack.l0 k ([] : List Int) (x1.take ((mn (x1.length : Int) 60) : Int).toNat) ((x1.take ((mn (x1.length : Int) 60) : Int).toNat).length : Int) 0) else (none)) else (none)
def plaitlaw03_VarintBack.l0 : Nat → List Int → List Int → Int → Int → Option (Bool)
  | 0, _, _, _, _ => none
  | k + 1, x30, x177, x178, x179 => if x179 < x178 then (if 0 ≤ x179 then (if x179 < (x177.length : Int) then (if x30.length < 17592186044416 then (plaitlaw03_VarintBack.l0 k (x30 ++ [wrap64 (Int.tmod (IntKind.u64.wrap (rd x177 x179)) 2147483648)]) x177 x178 (wrap64 (x179 + 1))) else (none)) else (none)) else (none)) else ((varint_All.f k x30).bind fun bt327 => ((varint_Every.f k bt327.1).bind fun bt329 => (if bt327.2 = 0 then (if bt329.2 = 0 then ((plaitref01_Rows.f k bt329.1 x30).bind fun t333 => (some t333)) else (some false)) else (some false))))
end
def plaitlaw03_VarintBack.f (k : Nat) (a0 : Int) (l1 : List Int) (a2 : ByteArray) (a3 : Int) : Option (Bool) := (plaitlaw03_few.f a2).bind fun t299 => ((varint_Put.f (wrap64 (Int.tmod (IntKind.u64.wrap (a0)) 2147483648))).bind fun bt300 => ((varint_Get.f k bt300.1 0).bind fun bt302 => ((varint_Sign.f (wrap64 ((wrap64 (Int.tmod (IntKind.u64.wrap (a0)) 2147483648)) - 1073741824))).bind fun bt305 => ((varint_Signed.f k bt305.1 0).bind fun bt307 => (if bt300.2 = 0 then (if bt302.2.2 = 0 then (if bt305.2 = 0 then (if bt307.2.2 = 0 then (if bt302.1 = (wrap64 (Int.tmod (IntKind.u64.wrap (a0)) 2147483648)) then (if bt302.2.1 = (bt300.1.size : Int) then (if bt307.1 = (wrap64 ((wrap64 (Int.tmod (IntKind.u64.wrap (a0)) 2147483648)) - 1073741824)) then (if bt307.2.1 = (bt305.1.size : Int) then (if (bt300.1.size : Int) > 5 then (plaitlaw03_VarintBack.j0 k l1 t299 a3 true) else ((plaitlaw03_alive.f k).bind fun t310 => (plaitlaw03_VarintBack.j0 k l1 t299 a3 (!t310)))) else (plaitlaw03_VarintBack.j0 k l1 t299 a3 true)) else (plaitlaw03_VarintBack.j0 k l1 t299 a3 true)) else (plaitlaw03_VarintBack.j0 k l1 t299 a3 true)) else (plaitlaw03_VarintBack.j0 k l1 t299 a3 true)) else (plaitlaw03_VarintBack.j0 k l1 t299 a3 true)) else (plaitlaw03_VarintBack.j0 k l1 t299 a3 true)) else (plaitlaw03_VarintBack.j0 k l1 t299 a3 true)) else (plaitlaw03_VarintBack.j0 k l1 t299 a3 true))))))
theorem plaitlaw03_VarintBack.mono_l : ∀ k, (∀ y0 y1 y2 y3, LeO (plaitlaw03_VarintBack.j0 k y0 y1 y2 y3) (plaitlaw03_VarintBack.j0 (k + 1) y0 y1 y2 y3)) ∧ (∀ y0 y1, LeO (plaitlaw03_VarintBack.j1 k y0 y1) (plaitlaw03_VarintBack.j1 (k + 1) y0 y1)) ∧ (∀ y0, LeO (plaitlaw03_VarintBack.j2 k y0) (plaitlaw03_VarintBack.j2 (k + 1) y0)) ∧ (∀ y0 y1 y2 y3, LeO (plaitlaw03_VarintBack.l0 k y0 y1 y2 y3) (plaitlaw03_VarintBack.l0 (k + 1) y0 y1 y2 y3))
  | 0 => ⟨fun _ _ _ _ r h => by simp [plaitlaw03_VarintBack.j0] at h, fun _ _ r h => by simp [plaitlaw03_VarintBack.j1] at h, fun _ r h => by simp [plaitlaw03_VarintBack.j2] at h, fun _ _ _ _ r h => by simp [plaitlaw03_VarintBack.l0] at h⟩
  | k + 1 => by
    obtain ⟨ih0, ih1, ih2, ih3⟩ := plaitlaw03_VarintBack.mono_l k
    refine ⟨?_, ?_, ?_, ?_⟩
    · intro y0 y1 y2 y3
      unfold plaitlaw03_VarintBack.j0
      repeat' first
      | (with_reducible exact ih0 _ _ _ _)
      | (with_reducible exact ih1 _ _)
      | (with_reducible exact ih2 _)
      | (with_reducible exact ih3 _ _ _ _)
      | (with_reducible exact plaitlaw03_alive.mono _)
      | (with_reducible exact plaitref01_Rows.mono _ _ _)
      | (with_reducible exact varint_All.mono _ _)
      | (with_reducible exact varint_Every.mono _ _)
      | (with_reducible exact varint_Get.mono _ _ _)
      | (with_reducible exact varint_Signed.mono _ _ _)
      | (with_reducible exact LeO.refl _)
      | (with_reducible exact LeO.none _)
      | (with_reducible refine LeO.ite ?_ ?_)
      | (with_reducible refine LeO.bind ?_ (fun _ => ?_))
      | exact ih0 _ _ _ _
      | exact ih1 _ _
      | exact ih2 _
      | exact ih3 _ _ _ _
      | exact plaitlaw03_alive.mono _
      | exact plaitref01_Rows.mono _ _ _
      | exact varint_All.mono _ _
      | exact varint_Every.mono _ _
      | exact varint_Get.mono _ _ _
      | exact varint_Signed.mono _ _ _
      | exact LeO.none _
      | refine LeO.ite ?_ ?_
      | refine LeO.bind ?_ (fun _ => ?_)
    · intro y0 y1
      unfold plaitlaw03_VarintBack.j1
      repeat' first
      | (with_reducible exact ih0 _ _ _ _)
      | (with_reducible exact ih1 _ _)
      | (with_reducible exact ih2 _)
      | (with_reducible exact ih3 _ _ _ _)
      | (with_reducible exact plaitlaw03_alive.mono _)
      | (with_reducible exact plaitref01_Rows.mono _ _ _)
      | (with_reducible exact varint_All.mono _ _)
      | (with_reducible exact varint_Every.mono _ _)
      | (with_reducible exact varint_Get.mono _ _ _)
      | (with_reducible exact varint_Signed.mono _ _ _)
      | (with_reducible exact LeO.refl _)
      | (with_reducible exact LeO.none _)
      | (with_reducible refine LeO.ite ?_ ?_)
      | (with_reducible refine LeO.bind ?_ (fun _ => ?_))
      | exact ih0 _ _ _ _
      | exact ih1 _ _
      | exact ih2 _
      | exact ih3 _ _ _ _
      | exact plaitlaw03_alive.mono _
      | exact plaitref01_Rows.mono _ _ _
      | exact varint_All.mono _ _
      | exact varint_Every.mono _ _
      | exact varint_Get.mono _ _ _
      | exact varint_Signed.mono _ _ _
      | exact LeO.none _
      | refine LeO.ite ?_ ?_
      | refine LeO.bind ?_ (fun _ => ?_)
    · intro y0
      unfold plaitlaw03_VarintBack.j2
      repeat' first
      | (with_reducible exact ih0 _ _ _ _)
      | (with_reducible exact ih1 _ _)
      | (with_reducible exact ih2 _)
      | (with_reducible exact ih3 _ _ _ _)
      | (with_reducible exact plaitlaw03_alive.mono _)
      | (with_reducible exact plaitref01_Rows.mono _ _ _)
      | (with_reducible exact varint_All.mono _ _)
      | (with_reducible exact varint_Every.mono _ _)
      | (with_reducible exact varint_Get.mono _ _ _)
      | (with_reducible exact varint_Signed.mono _ _ _)
      | (with_reducible exact LeO.refl _)
      | (with_reducible exact LeO.none _)
      | (with_reducible refine LeO.ite ?_ ?_)
      | (with_reducible refine LeO.bind ?_ (fun _ => ?_))
      | exact ih0 _ _ _ _
      | exact ih1 _ _
      | exact ih2 _
      | exact ih3 _ _ _ _
      | exact plaitlaw03_alive.mono _
      | exact plaitref01_Rows.mono _ _ _
      | exact varint_All.mono _ _
      | exact varint_Every.mono _ _
      | exact varint_Get.mono _ _ _
      | exact varint_Signed.mono _ _ _
      | exact LeO.none _
      | refine LeO.ite ?_ ?_
      | refine LeO.bind ?_ (fun _ => ?_)
    · intro y0 y1 y2 y3
      unfold plaitlaw03_VarintBack.l0
      repeat' first
      | (with_reducible exact ih0 _ _ _ _)
      | (with_reducible exact ih1 _ _)
      | (with_reducible exact ih2 _)
      | (with_reducible exact ih3 _ _ _ _)
      | (with_reducible exact plaitlaw03_alive.mono _)
      | (with_reducible exact plaitref01_Rows.mono _ _ _)
      | (with_reducible exact varint_All.mono _ _)
      | (with_reducible exact varint_Every.mono _ _)
      | (with_reducible exact varint_Get.mono _ _ _)
      | (with_reducible exact varint_Signed.mono _ _ _)
      | (with_reducible exact LeO.refl _)
      | (with_reducible exact LeO.none _)
      | (with_reducible refine LeO.ite ?_ ?_)
      | (with_reducible refine LeO.bind ?_ (fun _ => ?_))
      | exact ih0 _ _ _ _
      | exact ih1 _ _
      | exact ih2 _
      | exact ih3 _ _ _ _
      | exact plaitlaw03_alive.mono _
      | exact plaitref01_Rows.mono _ _ _
      | exact varint_All.mono _ _
      | exact varint_Every.mono _ _
      | exact varint_Get.mono _ _ _
      | exact varint_Signed.mono _ _ _
      | exact LeO.none _
      | refine LeO.ite ?_ ?_
      | refine LeO.bind ?_ (fun _ => ?_)
theorem plaitlaw03_VarintBack.mono : ∀ a0 a1 a2 a3 k, LeO (plaitlaw03_VarintBack.f k a0 a1 a2 a3) (plaitlaw03_VarintBack.f (k + 1) a0 a1 a2 a3) := by
  intro a0 a1 a2 a3 k
  obtain ⟨ih0, ih1, ih2, ih3⟩ := plaitlaw03_VarintBack.mono_l k
  unfold plaitlaw03_VarintBack.f
  repeat' first
      | (with_reducible exact ih0 _ _ _ _)
      | (with_reducible exact ih1 _ _)
      | (with_reducible exact ih2 _)
      | (with_reducible exact ih3 _ _ _ _)
      | (with_reducible exact plaitlaw03_alive.mono _)
      | (with_reducible exact plaitref01_Rows.mono _ _ _)
      | (with_reducible exact varint_All.mono _ _)
      | (with_reducible exact varint_Every.mono _ _)
      | (with_reducible exact varint_Get.mono _ _ _)
      | (with_reducible exact varint_Signed.mono _ _ _)
      | (with_reducible exact LeO.refl _)
      | (with_reducible exact LeO.none _)
      | (with_reducible refine LeO.ite ?_ ?_)
      | (with_reducible refine LeO.bind ?_ (fun _ => ?_))
      | exact ih0 _ _ _ _
      | exact ih1 _ _
      | exact ih2 _
      | exact ih3 _ _ _ _
      | exact plaitlaw03_alive.mono _
      | exact plaitref01_Rows.mono _ _ _
      | exact varint_All.mono _ _
      | exact varint_Every.mono _ _
      | exact varint_Get.mono _ _ _
      | exact varint_Signed.mono _ _ _
      | exact LeO.none _
      | refine LeO.ite ?_ ?_
      | refine LeO.bind ?_ (fun _ => ?_)
set_option maxHeartbeats 8000000 in
set_option maxRecDepth 100000 in
theorem plaitlaw03_VarintBack.calls (k : Nat) (a0 : Int) (A1 : Option Addr) (c1 : Nat) (l1 : List Int) (a2 : ByteArray) (a3 : Int) (r : Bool) (w : World) (hr1 : Kd.C (Kd.int .i64) w A1 l1.length l1) (hc1 : l1.length ≤ c1) (h : plaitlaw03_VarintBack.f k a0 l1 a2 a3 = some r) (hr_ : Aside0 (r = true)) :
    Calls Try.prog 12 #[.int .i64 a0, .slice A1 l1.length c1, .string a2, .int .i64 a3] w fun e w' => e = .returned (.bool r) ∧ Below w.heap.size w w' := by
  have HR1 := Aside0.mk hr1
  have HC1 := Aside0.mk hc1
  clear hr1 hc1
  have HB := Aside0.mk (Below.refl w.heap.size w)
  have H : ((plaitlaw03_few.f a2).bind fun t299 => ((varint_Put.f (wrap64 (Int.tmod (IntKind.u64.wrap (a0)) 2147483648))).bind fun bt300 => ((varint_Get.f k bt300.1 0).bind fun bt302 => ((varint_Sign.f (wrap64 ((wrap64 (Int.tmod (IntKind.u64.wrap (a0)) 2147483648)) - 1073741824))).bind fun bt305 => ((varint_Signed.f k bt305.1 0).bind fun bt307 => (if bt300.2 = 0 then (if bt302.2.2 = 0 then (if bt305.2 = 0 then (if bt307.2.2 = 0 then (if bt302.1 = (wrap64 (Int.tmod (IntKind.u64.wrap (a0)) 2147483648)) then (if bt302.2.1 = (bt300.1.size : Int) then (if bt307.1 = (wrap64 ((wrap64 (Int.tmod (IntKind.u64.wrap (a0)) 2147483648)) - 1073741824)) then (if bt307.2.1 = (bt305.1.size : Int) then (if (bt300.1.size : Int) > 5 then (plaitlaw03_VarintBack.j0 k l1 t299 a3 true) else ((plaitlaw03_alive.f k).bind fun t310 => (plaitlaw03_VarintBack.j0 k l1 t299 a3 (!t310)))) else (plaitlaw03_VarintBack.j0 k l1 t299 a3 true)) else (plaitlaw03_VarintBack.j0 k l1 t299 a3 true)) else (plaitlaw03_VarintBack.j0 k l1 t299 a3 true)) else (plaitlaw03_VarintBack.j0 k l1 t299 a3 true)) else (plaitlaw03_VarintBack.j0 k l1 t299 a3 true)) else (plaitlaw03_VarintBack.j0 k l1 t299 a3 true)) else (plaitlaw03_VarintBack.j0 k l1 t299 a3 true)) else (plaitlaw03_VarintBack.j0 k l1 t299 a3 true))))))) = some r := h
  clear h
  replace H := Option.bind_eq_some_iff.mp H
  obtain ⟨t299, A50, H⟩ := H
  replace H : ((varint_Put.f (wrap64 (Int.tmod (IntKind.u64.wrap (a0)) 2147483648))).bind fun bt300 => ((varint_Get.f k bt300.1 0).bind fun bt302 => ((varint_Sign.f (wrap64 ((wrap64 (Int.tmod (IntKind.u64.wrap (a0)) 2147483648)) - 1073741824))).bind fun bt305 => ((varint_Signed.f k bt305.1 0).bind fun bt307 => (if bt300.2 = 0 then (if bt302.2.2 = 0 then (if bt305.2 = 0 then (if bt307.2.2 = 0 then (if bt302.1 = (wrap64 (Int.tmod (IntKind.u64.wrap (a0)) 2147483648)) then (if bt302.2.1 = (bt300.1.size : Int) then (if bt307.1 = (wrap64 ((wrap64 (Int.tmod (IntKind.u64.wrap (a0)) 2147483648)) - 1073741824)) then (if bt307.2.1 = (bt305.1.size : Int) then (if (bt300.1.size : Int) > 5 then (plaitlaw03_VarintBack.j0 k l1 t299 a3 true) else ((plaitlaw03_alive.f k).bind fun t310 => (plaitlaw03_VarintBack.j0 k l1 t299 a3 (!t310)))) else (plaitlaw03_VarintBack.j0 k l1 t299 a3 true)) else (plaitlaw03_VarintBack.j0 k l1 t299 a3 true)) else (plaitlaw03_VarintBack.j0 k l1 t299 a3 true)) else (plaitlaw03_VarintBack.j0 k l1 t299 a3 true)) else (plaitlaw03_VarintBack.j0 k l1 t299 a3 true)) else (plaitlaw03_VarintBack.j0 k l1 t299 a3 true)) else (plaitlaw03_VarintBack.j0 k l1 t299 a3 true)) else (plaitlaw03_VarintBack.j0 k l1 t299 a3 true)))))) = some r := H
  have A5 := Aside0.mk A50
  clear A50
  replace H := Option.bind_eq_some_iff.mp H
  obtain ⟨⟨t300, t301⟩, A60, H⟩ := H
  replace H : ((varint_Get.f k t300 0).bind fun bt302 => ((varint_Sign.f (wrap64 ((wrap64 (Int.tmod (IntKind.u64.wrap (a0)) 2147483648)) - 1073741824))).bind fun bt305 => ((varint_Signed.f k bt305.1 0).bind fun bt307 => (if t301 = 0 then (if bt302.2.2 = 0 then (if bt305.2 = 0 then (if bt307.2.2 = 0 then (if bt302.1 = (wrap64 (Int.tmod (IntKind.u64.wrap (a0)) 2147483648)) then (if bt302.2.1 = (t300.size : Int) then (if bt307.1 = (wrap64 ((wrap64 (Int.tmod (IntKind.u64.wrap (a0)) 2147483648)) - 1073741824)) then (if bt307.2.1 = (bt305.1.size : Int) then (if (t300.size : Int) > 5 then (plaitlaw03_VarintBack.j0 k l1 t299 a3 true) else ((plaitlaw03_alive.f k).bind fun t310 => (plaitlaw03_VarintBack.j0 k l1 t299 a3 (!t310)))) else (plaitlaw03_VarintBack.j0 k l1 t299 a3 true)) else (plaitlaw03_VarintBack.j0 k l1 t299 a3 true)) else (plaitlaw03_VarintBack.j0 k l1 t299 a3 true)) else (plaitlaw03_VarintBack.j0 k l1 t299 a3 true)) else (plaitlaw03_VarintBack.j0 k l1 t299 a3 true)) else (plaitlaw03_VarintBack.j0 k l1 t299 a3 true)) else (plaitlaw03_VarintBack.j0 k l1 t299 a3 true)) else (plaitlaw03_VarintBack.j0 k l1 t299 a3 true))))) = some r := H
  have A6 := Aside0.mk A60
  clear A60
  replace H := Option.bind_eq_some_iff.mp H
  obtain ⟨⟨t302, t303, t304⟩, A70, H⟩ := H
  replace H : ((varint_Sign.f (wrap64 ((wrap64 (Int.tmod (IntKind.u64.wrap (a0)) 2147483648)) - 1073741824))).bind fun bt305 => ((varint_Signed.f k bt305.1 0).bind fun bt307 => (if t301 = 0 then (if t304 = 0 then (if bt305.2 = 0 then (if bt307.2.2 = 0 then (if t302 = (wrap64 (Int.tmod (IntKind.u64.wrap (a0)) 2147483648)) then (if t303 = (t300.size : Int) then (if bt307.1 = (wrap64 ((wrap64 (Int.tmod (IntKind.u64.wrap (a0)) 2147483648)) - 1073741824)) then (if bt307.2.1 = (bt305.1.size : Int) then (if (t300.size : Int) > 5 then (plaitlaw03_VarintBack.j0 k l1 t299 a3 true) else ((plaitlaw03_alive.f k).bind fun t310 => (plaitlaw03_VarintBack.j0 k l1 t299 a3 (!t310)))) else (plaitlaw03_VarintBack.j0 k l1 t299 a3 true)) else (plaitlaw03_VarintBack.j0 k l1 t299 a3 true)) else (plaitlaw03_VarintBack.j0 k l1 t299 a3 true)) else (plaitlaw03_VarintBack.j0 k l1 t299 a3 true)) else (plaitlaw03_VarintBack.j0 k l1 t299 a3 true)) else (plaitlaw03_VarintBack.j0 k l1 t299 a3 true)) else (plaitlaw03_VarintBack.j0 k l1 t299 a3 true)) else (plaitlaw03_VarintBack.j0 k l1 t299 a3 true)))) = some r := H
  have A7 := Aside0.mk A70
  clear A70
  replace H := Option.bind_eq_some_iff.mp H
  obtain ⟨⟨t305, t306⟩, A80, H⟩ := H
  replace H : ((varint_Signed.f k t305 0).bind fun bt307 => (if t301 = 0 then (if t304 = 0 then (if t306 = 0 then (if bt307.2.2 = 0 then (if t302 = (wrap64 (Int.tmod (IntKind.u64.wrap (a0)) 2147483648)) then (if t303 = (t300.size : Int) then (if bt307.1 = (wrap64 ((wrap64 (Int.tmod (IntKind.u64.wrap (a0)) 2147483648)) - 1073741824)) then (if bt307.2.1 = (t305.size : Int) then (if (t300.size : Int) > 5 then (plaitlaw03_VarintBack.j0 k l1 t299 a3 true) else ((plaitlaw03_alive.f k).bind fun t310 => (plaitlaw03_VarintBack.j0 k l1 t299 a3 (!t310)))) else (plaitlaw03_VarintBack.j0 k l1 t299 a3 true)) else (plaitlaw03_VarintBack.j0 k l1 t299 a3 true)) else (plaitlaw03_VarintBack.j0 k l1 t299 a3 true)) else (plaitlaw03_VarintBack.j0 k l1 t299 a3 true)) else (plaitlaw03_VarintBack.j0 k l1 t299 a3 true)) else (plaitlaw03_VarintBack.j0 k l1 t299 a3 true)) else (plaitlaw03_VarintBack.j0 k l1 t299 a3 true)) else (plaitlaw03_VarintBack.j0 k l1 t299 a3 true))) = some r := H
  have A8 := Aside0.mk A80
  clear A80
  replace H := Option.bind_eq_some_iff.mp H
  obtain ⟨⟨t307, t308, t309⟩, A90, H⟩ := H
  replace H : (if t301 = 0 then (if t304 = 0 then (if t306 = 0 then (if t309 = 0 then (if t302 = (wrap64 (Int.tmod (IntKind.u64.wrap (a0)) 2147483648)) then (if t303 = (t300.size : Int) then (if t307 = (wrap64 ((wrap64 (Int.tmod (IntKind.u64.wrap (a0)) 2147483648)) - 1073741824)) then (if t308 = (t305.size : Int) then (if (t300.size : Int) > 5 then (plaitlaw03_VarintBack.j0 k l1 t299 a3 true) else ((plaitlaw03_alive.f k).bind fun t310 => (plaitlaw03_VarintBack.j0 k l1 t299 a3 (!t310)))) else (plaitlaw03_VarintBack.j0 k l1 t299 a3 true)) else (plaitlaw03_VarintBack.j0 k l1 t299 a3 true)) else (plaitlaw03_VarintBack.j0 k l1 t299 a3 true)) else (plaitlaw03_VarintBack.j0 k l1 t299 a3 true)) else (plaitlaw03_VarintBack.j0 k l1 t299 a3 true)) else (plaitlaw03_VarintBack.j0 k l1 t299 a3 true)) else (plaitlaw03_VarintBack.j0 k l1 t299 a3 true)) else (plaitlaw03_VarintBack.j0 k l1 t299 a3 true)) = some r := H
  have A9 := Aside0.mk A90
  clear A90
  have HC10 := Aside0.mk H
  clear H
  go_enter Try.func12, Try.ntmps12
  go_upto_region 7 with (first | ((with_reducible refine gate_callee (f := 25) rfl ?_); refine goesL_ (some 38) rfl rfl Try.func25 (by kernel_rfl) rfl #[.string a2] rfl (by (try simp only [List.map_toArray, List.map_cons, List.map_nil]); first | done | rfl | (simp only [List.length_drop, List.length_take]; rfl)) ?_; (with_reducible refine (plaitlaw03_few.calls a2 t299 _ A5.out).mono ?_); rintro e w11 ⟨rfl, hb⟩; refine ⟨_, rfl, ?_⟩; have n0_ := Aside0.mk (below_step (by repeat (first | (with_reducible first | exact HB.out | apply below_alloc | apply pw_below_drewN | apply below_drew1) | exact HB.out)) hb); clear HB; have HB := n0_; clear n0_; (try clear hb); (try clear hb2); (try clear hk); (try clear hi)) | ((with_reducible refine gate_callee (f := 23) rfl ?_); refine goesL_ (some 50) rfl rfl Try.func23 (by kernel_rfl) rfl #[.int .i64 (wrap64 (Int.tmod (IntKind.u64.wrap (a0)) 2147483648))] rfl (by (try simp only [List.map_toArray, List.map_cons, List.map_nil]); first | done | rfl | (simp only [List.length_drop, List.length_take]; rfl)) ?_; (with_reducible refine (varint_Put.calls (wrap64 (Int.tmod (IntKind.u64.wrap (a0)) 2147483648)) t300 t301 _ A6.out).mono ?_); rintro e w12 ⟨rfl, hb⟩; refine ⟨_, rfl, ?_⟩; have n0_ := Aside0.mk (below_step (by repeat (first | (with_reducible first | exact HB.out | apply below_alloc | apply pw_below_drewN | apply below_drew1) | exact HB.out)) hb); clear HB; have HB := n0_; clear n0_; (try clear hb); (try clear hb2); (try clear hk); (try clear hi)) | ((with_reducible refine gate_callee (f := 27) rfl ?_); refine goesL_ (some 55) rfl rfl Try.func27 (by kernel_rfl) rfl #[.string t300, .int .i64 0] rfl (by (try simp only [List.map_toArray, List.map_cons, List.map_nil]); first | done | rfl | (simp only [List.length_drop, List.length_take]; rfl)) ?_; (with_reducible refine (varint_Get.calls k t300 0 t302 t303 t304 _ A7.out).mono ?_); rintro e w' ⟨rfl, ⟨nd, rfl⟩⟩; refine ⟨_, rfl, ?_⟩) | ((with_reducible refine gate_callee (f := 26) rfl ?_); refine goesL_ (some 61) rfl rfl Try.func26 (by kernel_rfl) rfl #[.int .i64 (wrap64 ((wrap64 (Int.tmod (IntKind.u64.wrap (a0)) 2147483648)) - 1073741824))] rfl (by (try simp only [List.map_toArray, List.map_cons, List.map_nil]); first | done | rfl | (simp only [List.length_drop, List.length_take]; rfl)) ?_; (with_reducible refine (varint_Sign.calls (wrap64 ((wrap64 (Int.tmod (IntKind.u64.wrap (a0)) 2147483648)) - 1073741824)) t305 t306 _ A8.out).mono ?_); rintro e w13 ⟨rfl, hb⟩; refine ⟨_, rfl, ?_⟩; have n0_ := Aside0.mk (below_step (by repeat (first | (with_reducible first | exact HB.out | apply below_alloc | apply pw_below_drewN | apply below_drew1) | exact HB.out)) hb); clear HB; have HB := n0_; clear n0_; (try clear hb); (try clear hb2); (try clear hk); (try clear hi)) | ((with_reducible refine gate_callee (f := 28) rfl ?_); refine goesL_ (some 66) rfl rfl Try.func28 (by kernel_rfl) rfl #[.string t305, .int .i64 0] rfl (by (try simp only [List.map_toArray, List.map_cons, List.map_nil]); first | done | rfl | (simp only [List.length_drop, List.length_take]; rfl)) ?_; (with_reducible refine (varint_Signed.calls k t305 0 t307 t308 t309 _ A9.out).mono ?_); rintro e w' ⟨rfl, ⟨nd, rfl⟩⟩; refine ⟨_, rfl, ?_⟩))
  (try simp only [Act.put, List.setIfInBounds_toArray, List.set_cons_zero, List.set_cons_succ])
  go_cut [114] (fun v114 wc => ∃ (kq : Nat) (x114_9 : Bool), v114 = .bool x114_9 ∧ Aside0 (plaitlaw03_VarintBack.j0 kq l1 t299 a3 x114_9 = some r) ∧ Aside0 (kq ≤ k) ∧ Aside0 (Below w.heap.size w wc))
  case first =>
    have H := HC10.out
    clear HC10
    by_cases c14 : t301 = 0
    · rw [if_pos c14] at H
      have c14b0 : (t301 == 0) = true := beq_iff_eq.mpr c14
      have c14b1 : (t301 != 0) = false := bne_eq_false_iff_eq.mpr c14
      clear c14
      (first | rw [c14b0] | (simp only [i64_w, i32_w]; rw [c14b0]) | skip)
      by_cases c15 : t304 = 0
      · rw [if_pos c15] at H
        have c15b0 : (t304 == 0) = true := beq_iff_eq.mpr c15
        have c15b1 : (t304 != 0) = false := bne_eq_false_iff_eq.mpr c15
        clear c15
        by_cases c16 : t306 = 0
        · rw [if_pos c16] at H
          have c16b0 : (t306 == 0) = true := beq_iff_eq.mpr c16
          have c16b1 : (t306 != 0) = false := bne_eq_false_iff_eq.mpr c16
          clear c16
          by_cases c17 : t309 = 0
          · rw [if_pos c17] at H
            have c17b0 : (t309 == 0) = true := beq_iff_eq.mpr c17
            have c17b1 : (t309 != 0) = false := bne_eq_false_iff_eq.mpr c17
            clear c17
            by_cases c18 : t302 = (wrap64 (Int.tmod (IntKind.u64.wrap (a0)) 2147483648))
            · rw [if_pos c18] at H
              have c18b0 : (t302 == (wrap64 (Int.tmod (IntKind.u64.wrap (a0)) 2147483648))) = true := beq_iff_eq.mpr c18
              have c18b1 : (t302 != (wrap64 (Int.tmod (IntKind.u64.wrap (a0)) 2147483648))) = false := bne_eq_false_iff_eq.mpr c18
              clear c18
              by_cases c19 : t303 = (t300.size : Int)
              · rw [if_pos c19] at H
                have c19b0 : (t303 == (t300.size : Int)) = true := beq_iff_eq.mpr c19
                have c19b1 : (t303 != (t300.size : Int)) = false := bne_eq_false_iff_eq.mpr c19
                clear c19
                by_cases c20 : t307 = (wrap64 ((wrap64 (Int.tmod (IntKind.u64.wrap (a0)) 2147483648)) - 1073741824))
                · rw [if_pos c20] at H
                  have c20b0 : (t307 == (wrap64 ((wrap64 (Int.tmod (IntKind.u64.wrap (a0)) 2147483648)) - 1073741824))) = true := beq_iff_eq.mpr c20
                  have c20b1 : (t307 != (wrap64 ((wrap64 (Int.tmod (IntKind.u64.wrap (a0)) 2147483648)) - 1073741824))) = false := bne_eq_false_iff_eq.mpr c20
                  clear c20
                  by_cases c21 : t308 = (t305.size : Int)
                  · rw [if_pos c21] at H
                    have c21b0 : (t308 == (t305.size : Int)) = true := beq_iff_eq.mpr c21
                    have c21b1 : (t308 != (t305.size : Int)) = false := bne_eq_false_iff_eq.mpr c21
                    clear c21
                    by_cases c22 : (t300.size : Int) > 5
                    · rw [if_pos c22] at H
                      have c22b0 : decide (5 < (t300.size : Int)) = true := decide_eq_true c22
                      have c22b1 : decide (5 < t300.size) = true := decide_eq_true (by omega)
                      clear c22
                      have H' := Aside0.mk H
                      clear H
                      go_wp2
                      go_meet
                      case rel => exact ⟨_, (true), (by first | rfl | (simp; done) | (simp [*]; done)), H', ⟨by first | omega | exact Nat.le_refl _⟩, ⟨by repeat (first | (with_reducible first | exact HB.out | apply below_alloc | apply pw_below_drewN | apply below_drew1) | exact HB.out)⟩⟩
                    · rw [if_neg c22] at H
                      have c22b0 : decide (5 < (t300.size : Int)) = false := decide_eq_false c22
                      have c22b1 : decide (5 < t300.size) = false := decide_eq_false (by omega)
                      clear c22
                      replace H := Option.bind_eq_some_iff.mp H
                      obtain ⟨t310, A230, H⟩ := H
                      replace H : (plaitlaw03_VarintBack.j0 k l1 t299 a3 (!t310)) = some r := H
                      have A23 := Aside0.mk A230
                      clear A230
                      have H' := Aside0.mk H
                      clear H
                      go_wp2_with (first | (go_at_call 24; (with_reducible refine (plaitlaw03_alive.calls k  t310 _ A23.out).mono ?_); rintro e w24 ⟨rfl, hb⟩; have n0_ := Aside0.mk (below_step (by repeat (first | (with_reducible first | exact HB.out | apply below_alloc | apply pw_below_drewN | apply below_drew1) | exact HB.out)) hb); clear HB; have HB := n0_; clear n0_; (try clear hb); (try clear hb2); (try clear hk); (try clear hi)))
                      go_meet
                      case rel => exact ⟨_, (!t310), (by first | rfl | (simp; done) | (simp [*]; done)), H', ⟨by first | omega | exact Nat.le_refl _⟩, ⟨by repeat (first | (with_reducible first | exact HB.out | apply below_alloc | apply pw_below_drewN | apply below_drew1) | exact HB.out)⟩⟩
                  · rw [if_neg c21] at H
                    have c21b0 : (t308 == (t305.size : Int)) = false := beq_eq_false_iff_ne.mpr c21
                    have c21b1 : (t308 != (t305.size : Int)) = true := bne_iff_ne.mpr c21
                    have H' := Aside0.mk H
                    clear H
                    go_wp2
                    go_meet
                    case rel => exact ⟨_, (true), (by first | rfl | (simp; done) | (simp [*]; done)), H', ⟨by first | omega | exact Nat.le_refl _⟩, ⟨by repeat (first | (with_reducible first | exact HB.out | apply below_alloc | apply pw_below_drewN | apply below_drew1) | exact HB.out)⟩⟩
                · rw [if_neg c20] at H
                  have c20b0 : (t307 == (wrap64 ((wrap64 (Int.tmod (IntKind.u64.wrap (a0)) 2147483648)) - 1073741824))) = false := beq_eq_false_iff_ne.mpr c20
                  have c20b1 : (t307 != (wrap64 ((wrap64 (Int.tmod (IntKind.u64.wrap (a0)) 2147483648)) - 1073741824))) = true := bne_iff_ne.mpr c20
                  have H' := Aside0.mk H
                  clear H
                  go_wp2
                  go_meet
                  case rel => exact ⟨_, (true), (by first | rfl | (simp; done) | (simp [*]; done)), H', ⟨by first | omega | exact Nat.le_refl _⟩, ⟨by repeat (first | (with_reducible first | exact HB.out | apply below_alloc | apply pw_below_drewN | apply below_drew1) | exact HB.out)⟩⟩
              · rw [if_neg c19] at H
                have c19b0 : (t303 == (t300.size : Int)) = false := beq_eq_false_iff_ne.mpr c19
                have c19b1 : (t303 != (t300.size : Int)) = true := bne_iff_ne.mpr c19
                have H' := Aside0.mk H
                clear H
                go_wp2
                go_meet
                case rel => exact ⟨_, (true), (by first | rfl | (simp; done) | (simp [*]; done)), H', ⟨by first | omega | exact Nat.le_refl _⟩, ⟨by repeat (first | (with_reducible first | exact HB.out | apply below_alloc | apply pw_below_drewN | apply below_drew1) | exact HB.out)⟩⟩
            · rw [if_neg c18] at H
              have c18b0 : (t302 == (wrap64 (Int.tmod (IntKind.u64.wrap (a0)) 2147483648))) = false := beq_eq_false_iff_ne.mpr c18
              have c18b1 : (t302 != (wrap64 (Int.tmod (IntKind.u64.wrap (a0)) 2147483648))) = true := bne_iff_ne.mpr c18
              have H' := Aside0.mk H
              clear H
              go_wp2
              go_meet
              case rel => exact ⟨_, (true), (by first | rfl | (simp; done) | (simp [*]; done)), H', ⟨by first | omega | exact Nat.le_refl _⟩, ⟨by repeat (first | (with_reducible first | exact HB.out | apply below_alloc | apply pw_below_drewN | apply below_drew1) | exact HB.out)⟩⟩
          · rw [if_neg c17] at H
            have c17b0 : (t309 == 0) = false := beq_eq_false_iff_ne.mpr c17
            have c17b1 : (t309 != 0) = true := bne_iff_ne.mpr c17
            have H' := Aside0.mk H
            clear H
            go_wp2
            go_meet
            case rel => exact ⟨_, (true), (by first | rfl | (simp; done) | (simp [*]; done)), H', ⟨by first | omega | exact Nat.le_refl _⟩, ⟨by repeat (first | (with_reducible first | exact HB.out | apply below_alloc | apply pw_below_drewN | apply below_drew1) | exact HB.out)⟩⟩
        · rw [if_neg c16] at H
          have c16b0 : (t306 == 0) = false := beq_eq_false_iff_ne.mpr c16
          have c16b1 : (t306 != 0) = true := bne_iff_ne.mpr c16
          have H' := Aside0.mk H
          clear H
          go_wp2
          go_meet
          case rel => exact ⟨_, (true), (by first | rfl | (simp; done) | (simp [*]; done)), H', ⟨by first | omega | exact Nat.le_refl _⟩, ⟨by repeat (first | (with_reducible first | exact HB.out | apply below_alloc | apply pw_below_drewN | apply below_drew1) | exact HB.out)⟩⟩
      · rw [if_neg c15] at H
        have c15b0 : (t304 == 0) = false := beq_eq_false_iff_ne.mpr c15
        have c15b1 : (t304 != 0) = true := bne_iff_ne.mpr c15
        have H' := Aside0.mk H
        clear H
        go_wp2
        go_meet
        case rel => exact ⟨_, (true), (by first | rfl | (simp; done) | (simp [*]; done)), H', ⟨by first | omega | exact Nat.le_refl _⟩, ⟨by repeat (first | (with_reducible first | exact HB.out | apply below_alloc | apply pw_below_drewN | apply below_drew1) | exact HB.out)⟩⟩
    · rw [if_neg c14] at H
      have c14b0 : (t301 == 0) = false := beq_eq_false_iff_ne.mpr c14
      have c14b1 : (t301 != 0) = true := bne_iff_ne.mpr c14
      (first | rw [c14b0] | (simp only [i64_w, i32_w]; rw [c14b0]) | skip)
      have H' := Aside0.mk H
      clear H
      go_wp2
      go_meet
      case rel => exact ⟨_, (true), (by first | rfl | (simp; done) | (simp [*]; done)), H', ⟨by first | omega | exact Nat.le_refl _⟩, ⟨by repeat (first | (with_reducible first | exact HB.out | apply below_alloc | apply pw_below_drewN | apply below_drew1) | exact HB.out)⟩⟩
  case rest =>
    clear HC10
    try clear c1
    try clear c2
    try clear p2
    try clear p6
    try clear c12
    try clear c14
    try clear c14b0
    try clear c14b1
    try clear c15
    try clear c15b0
    try clear c15b1
    try clear c16
    try clear c16b0
    try clear c16b1
    try clear c17
    try clear c17b0
    try clear c17b1
    try clear c18
    try clear c18b0
    try clear c18b1
    try clear c19
    try clear c19b0
    try clear c19b1
    try clear c20
    try clear c20b0
    try clear c20b1
    try clear c21
    try clear c21b0
    try clear c21b1
    try clear c22
    try clear c22b0
    try clear c22b1
    try clear c23
    obtain ⟨kq, x114_9, rfl, HA, HJ9, HB⟩ := hcut
    cases kq with
    | zero => exact absurd HA.out (by simp [plaitlaw03_VarintBack.j0])
    | succ kj9 =>
      have H := HA.out
      clear HA
      simp only [plaitlaw03_VarintBack.j0] at H
      by_cases c25 : x114_9 = true
      · subst c25
        have H1 : (some false) = some r := by rw [if_pos rfl] at H; exact H
        clear H
        have H := H1
        clear H1
        exact absurd (Option.some.inj H) (by rw [hr_.out]; decide)
      · replace c25 := Bool.eq_false_iff.mpr c25
        subst c25
        have H1 : ((varint_Get.f kj9 t299 a3).bind fun bt311 => (if bt311.2.2 = 0 then ((varint_Put.f bt311.1).bind fun bt314 => (if bt314.2 = 0 then (if a3 < 0 then (some false) else (if bt311.2.1 > (t299.size : Int) then (some false) else (if bt311.2.1 < a3 then (some false) else (if 0 ≤ a3 then (if a3 ≤ bt311.2.1 then (if bt311.2.1 ≤ (t299.size : Int) then (if bt314.1.toList = (t299.extract (a3 : Int).toNat (bt311.2.1 : Int).toNat).toList then (plaitlaw03_VarintBack.j1 kj9 l1 t299) else (some false)) else (none)) else (none)) else (none))))) else (some false))) else (plaitlaw03_VarintBack.j1 kj9 l1 t299))) = some r := by rw [if_neg (show ¬ (false = true) by decide)] at H; exact H
        clear H
        have H := H1
        clear H1
        replace H := Option.bind_eq_some_iff.mp H
        obtain ⟨⟨t311, t312, t313⟩, A260, H⟩ := H
        replace H : (if t313 = 0 then ((varint_Put.f t311).bind fun bt314 => (if bt314.2 = 0 then (if a3 < 0 then (some false) else (if t312 > (t299.size : Int) then (some false) else (if t312 < a3 then (some false) else (if 0 ≤ a3 then (if a3 ≤ t312 then (if t312 ≤ (t299.size : Int) then (if bt314.1.toList = (t299.extract (a3 : Int).toNat (t312 : Int).toNat).toList then (plaitlaw03_VarintBack.j1 kj9 l1 t299) else (some false)) else (none)) else (none)) else (none))))) else (some false))) else (plaitlaw03_VarintBack.j1 kj9 l1 t299)) = some r := H
        have A26 := Aside0.mk A260
        clear A260
        have HC27 := Aside0.mk H
        clear H
        go_upto_if 123 with (first | ((with_reducible refine gate_callee (f := 27) rfl ?_); refine goesL_ (some 118) rfl rfl Try.func27 (by kernel_rfl) rfl #[.string t299, .int .i64 a3] rfl (by (try simp only [List.map_toArray, List.map_cons, List.map_nil]); first | done | rfl | (simp only [List.length_drop, List.length_take]; rfl)) ?_; (with_reducible refine (varint_Get.calls kj9 t299 a3 t311 t312 t313 _ A26.out).mono ?_); rintro e w' ⟨rfl, ⟨nd, rfl⟩⟩; refine ⟨_, rfl, ?_⟩))
        (try simp only [Act.put, List.setIfInBounds_toArray, List.set_cons_zero, List.set_cons_succ])
        go_cut [] (fun wc => ∃ (kq : Nat), Aside0 (plaitlaw03_VarintBack.j1 kq l1 t299 = some r) ∧ Aside0 (kq ≤ kj9) ∧ Aside0 (Below w.heap.size w wc))
        case first =>
          have H := HC27.out
          clear HC27
          by_cases c28 : t313 = 0
          · rw [if_pos c28] at H
            have c28b0 : (t313 == 0) = true := beq_iff_eq.mpr c28
            have c28b1 : (t313 != 0) = false := bne_eq_false_iff_eq.mpr c28
            clear c28
            (first | rw [c28b0] | (simp only [i64_w, i32_w]; rw [c28b0]) | skip)
            replace H := Option.bind_eq_some_iff.mp H
            obtain ⟨⟨t314, t315⟩, A290, H⟩ := H
            replace H : (if t315 = 0 then (if a3 < 0 then (some false) else (if t312 > (t299.size : Int) then (some false) else (if t312 < a3 then (some false) else (if 0 ≤ a3 then (if a3 ≤ t312 then (if t312 ≤ (t299.size : Int) then (if t314.toList = (t299.extract (a3 : Int).toNat (t312 : Int).toNat).toList then (plaitlaw03_VarintBack.j1 kj9 l1 t299) else (some false)) else (none)) else (none)) else (none))))) else (some false)) = some r := H
            have A29 := Aside0.mk A290
            clear A290
            by_cases c30 : t315 = 0
            · rw [if_pos c30] at H
              have c30b0 : (t315 == 0) = true := beq_iff_eq.mpr c30
              have c30b1 : (t315 != 0) = false := bne_eq_false_iff_eq.mpr c30
              clear c30
              by_cases c31 : a3 < 0
              · rw [if_pos c31] at H
                have c31b0 : decide (a3 < 0) = true := decide_eq_true c31
                clear c31
                exact absurd (Option.some.inj H) (by rw [hr_.out]; decide)
              · rw [if_neg c31] at H
                have c31b0 : decide (a3 < 0) = false := decide_eq_false c31
                clear c31
                by_cases c32 : t312 > (t299.size : Int)
                · rw [if_pos c32] at H
                  have c32b0 : decide ((t299.size : Int) < t312) = true := decide_eq_true c32
                  clear c32
                  exact absurd (Option.some.inj H) (by rw [hr_.out]; decide)
                · rw [if_neg c32] at H
                  have c32b0 : decide ((t299.size : Int) < t312) = false := decide_eq_false c32
                  clear c32
                  by_cases c33 : t312 < a3
                  · rw [if_pos c33] at H
                    have c33b0 : decide (t312 < a3) = true := decide_eq_true c33
                    clear c33
                    exact absurd (Option.some.inj H) (by rw [hr_.out]; decide)
                  · rw [if_neg c33] at H
                    have c33b0 : decide (t312 < a3) = false := decide_eq_false c33
                    clear c33
                    by_cases c34 : 0 ≤ a3
                    · rw [if_pos c34] at H
                      have c34b0 := eq_true c34
                      have c34b1 : decide (0 ≤ a3) = true := decide_eq_true c34
                      clear c34
                      by_cases c35 : a3 ≤ t312
                      · rw [if_pos c35] at H
                        have c35b0 := eq_true c35
                        have c35b1 : decide (a3 ≤ t312) = true := decide_eq_true c35
                        clear c35
                        by_cases c36 : t312 ≤ (t299.size : Int)
                        · rw [if_pos c36] at H
                          have c36b0 := eq_true c36
                          have c36b1 : decide (t312 ≤ (t299.size : Int)) = true := decide_eq_true c36
                          clear c36
                          by_cases c37 : t314.toList = (t299.extract (a3 : Int).toNat (t312 : Int).toNat).toList
                          · rw [if_pos c37] at H
                            have c37b0 : (t314.toList == (t299.extract (a3 : Int).toNat (t312 : Int).toNat).toList) = true := beq_iff_eq.mpr c37
                            have c37b1 : (t314.toList != (t299.extract (a3 : Int).toNat (t312 : Int).toNat).toList) = false := bne_eq_false_iff_eq.mpr c37
                            clear c37
                            have H' := Aside0.mk H
                            clear H
                            go_wp2_with (first | ((with_reducible refine gate_callee (f := 23) rfl ?_); refine goesL_ (some 126) rfl rfl Try.func23 (by kernel_rfl) rfl #[.int .i64 t311] rfl (by (try simp only [List.map_toArray, List.map_cons, List.map_nil]); first | done | rfl | (simp only [List.length_drop, List.length_take]; rfl)) ?_; (with_reducible refine (varint_Put.calls t311 t314 t315 _ A29.out).mono ?_); rintro e w38 ⟨rfl, hb⟩; refine ⟨_, rfl, ?_⟩; have n0_ := Aside0.mk (below_step (by repeat (first | (with_reducible first | exact HB.out | apply below_alloc | apply pw_below_drewN | apply below_drew1) | exact HB.out)) hb); clear HB; have HB := n0_; clear n0_; (try clear hb); (try clear hb2); (try clear hk); (try clear hi)))
                            go_meet
                            case rel => exact ⟨_, H', ⟨by have := HJ9.out; first | omega | exact Nat.le_refl _⟩, ⟨by repeat (first | (with_reducible first | exact HB.out | apply below_alloc | apply pw_below_drewN | apply below_drew1) | exact HB.out)⟩⟩
                          · rw [if_neg c37] at H
                            have c37b0 : (t314.toList == (t299.extract (a3 : Int).toNat (t312 : Int).toNat).toList) = false := beq_eq_false_iff_ne.mpr c37
                            have c37b1 : (t314.toList != (t299.extract (a3 : Int).toNat (t312 : Int).toNat).toList) = true := bne_iff_ne.mpr c37
                            exact absurd (Option.some.inj H) (by rw [hr_.out]; decide)
                        · rw [if_neg c36] at H
                          exact absurd H (by simp)
                      · rw [if_neg c35] at H
                        exact absurd H (by simp)
                    · rw [if_neg c34] at H
                      exact absurd H (by simp)
            · rw [if_neg c30] at H
              have c30b0 : (t315 == 0) = false := beq_eq_false_iff_ne.mpr c30
              have c30b1 : (t315 != 0) = true := bne_iff_ne.mpr c30
              exact absurd (Option.some.inj H) (by rw [hr_.out]; decide)
          · rw [if_neg c28] at H
            have c28b0 : (t313 == 0) = false := beq_eq_false_iff_ne.mpr c28
            have c28b1 : (t313 != 0) = true := bne_iff_ne.mpr c28
            (first | rw [c28b0] | (simp only [i64_w, i32_w]; rw [c28b0]) | skip)
            have H' := Aside0.mk H
            clear H
            go_wp2
            go_meet
            case rel => exact ⟨_, H', ⟨by have := HJ9.out; first | omega | exact Nat.le_refl _⟩, ⟨by repeat (first | (with_reducible first | exact HB.out | apply below_alloc | apply pw_below_drewN | apply below_drew1) | exact HB.out)⟩⟩
        case rest =>
          clear HC27
          try clear c1
          try clear c2
          try clear p2
          try clear c3
          try clear p6
          try clear c12
          try clear c14
          try clear c14b0
          try clear c14b1
          try clear c15
          try clear c15b0
          try clear c15b1
          try clear c16
          try clear c16b0
          try clear c16b1
          try clear c17
          try clear c17b0
          try clear c17b1
          try clear c18
          try clear c18b0
          try clear c18b1
          try clear c19
          try clear c19b0
          try clear c19b1
          try clear c20
          try clear c20b0
          try clear c20b1
          try clear c21
          try clear c21b0
          try clear c21b1
          try clear c22
          try clear c22b0
          try clear c22b1
          try clear c23
          try clear c25
          try clear c26
          try clear c27
          try clear c28
          try clear c28b0
          try clear c28b1
          try clear c30
          try clear c30b0
          try clear c30b1
          try clear c31
          try clear c31b0
          try clear c32
          try clear c32b0
          try clear c33
          try clear c33b0
          try clear c34
          try clear c34b0
          try clear c34b1
          try clear c35
          try clear c35b0
          try clear c35b1
          try clear c36
          try clear c36b0
          try clear c36b1
          try clear c37
          try clear c37b0
          try clear c37b1
          try clear p2
          try clear p6
          obtain ⟨kq, HA, HJ26, HB⟩ := hcut
          cases kq with
          | zero => exact absurd HA.out (by simp [plaitlaw03_VarintBack.j1])
          | succ kj26 =>
            have H := HA.out
            clear HA
            simp only [plaitlaw03_VarintBack.j1] at H
            replace H := Option.bind_eq_some_iff.mp H
            obtain ⟨⟨t316, t317⟩, A390, H⟩ := H
            replace H : (if t317 = 0 then ((varint_All.f kj26 t316).bind fun bt320 => (if bt320.2 = 0 then (if bt320.1.toList = t299.toList then (plaitlaw03_VarintBack.j2 kj26 l1) else (some false)) else (some false))) else (plaitlaw03_VarintBack.j2 kj26 l1)) = some r := H
            have A39 := Aside0.mk A390
            clear A390
            have HC40 := Aside0.mk H
            clear H
            go_upto_if 160 with (first | ((with_reducible refine gate_callee (f := 41) rfl ?_); refine goesL_ (some 156) rfl rfl Try.func41 (by kernel_rfl) rfl #[.string t299] rfl (by (try simp only [List.map_toArray, List.map_cons, List.map_nil]); first | done | rfl | (simp only [List.length_drop, List.length_take]; rfl)) ?_; (with_reducible refine (varint_Every.calls kj26 t299 t316 t317 _ A39.out).mono ?_); rintro e w41 ⟨v318, rfl, ho0, hb⟩; refine ⟨_, rfl, ?_⟩; have n0_ := Aside0.mk (Kd.R_lower ho0 (below_size (by repeat (first | (with_reducible first | exact HB.out | apply below_alloc | apply pw_below_drewN | apply below_drew1) | exact HB.out)))); have n1_ := Aside0.mk (below_step (by repeat (first | (with_reducible first | exact HB.out | apply below_alloc | apply pw_below_drewN | apply below_drew1) | exact HB.out)) hb); clear HB; have HO319 := n0_; have HB := n1_; clear n0_ n1_; (try clear hb); (try clear hb2); (try clear hk); (try clear hi); (try clear ho0)))
            (try simp only [Act.put, List.setIfInBounds_toArray, List.set_cons_zero, List.set_cons_succ])
            go_cut [] (fun wc => ∃ (kq : Nat), Aside0 (plaitlaw03_VarintBack.j2 kq l1 = some r) ∧ Aside0 (kq ≤ kj26) ∧ Aside0 (Below w.heap.size w wc))
            case first =>
              have H := HC40.out
              clear HC40
              by_cases c42 : t317 = 0
              · rw [if_pos c42] at H
                have c42b0 : (t317 == 0) = true := beq_iff_eq.mpr c42
                have c42b1 : (t317 != 0) = false := bne_eq_false_iff_eq.mpr c42
                clear c42
                (first | rw [c42b0] | (simp only [i64_w, i32_w]; rw [c42b0]) | skip)
                replace H := Option.bind_eq_some_iff.mp H
                obtain ⟨⟨t320, t321⟩, A430, H⟩ := H
                replace H : (if t321 = 0 then (if t320.toList = t299.toList then (plaitlaw03_VarintBack.j2 kj26 l1) else (some false)) else (some false)) = some r := H
                have A43 := Aside0.mk A430
                clear A430
                by_cases c44 : t321 = 0
                · rw [if_pos c44] at H
                  have c44b0 : (t321 == 0) = true := beq_iff_eq.mpr c44
                  have c44b1 : (t321 != 0) = false := bne_eq_false_iff_eq.mpr c44
                  clear c44
                  by_cases c45 : t320.toList = t299.toList
                  · rw [if_pos c45] at H
                    have c45b0 : (t320.toList == t299.toList) = true := beq_iff_eq.mpr c45
                    have c45b1 : (t320.toList != t299.toList) = false := bne_eq_false_iff_eq.mpr c45
                    clear c45
                    have H' := Aside0.mk H
                    clear H
                    obtain ⟨Ao46, co46, eo46⟩ := Kd.R_slice HO319.out
                    subst eo46
                    go_wp2_with (first | ((with_reducible refine gate_callee (f := 40) rfl ?_); refine goesL_ (some 163) rfl rfl Try.func40 (by kernel_rfl) rfl #[.slice Ao46 t316.length co46] rfl (by (try simp only [List.map_toArray, List.map_cons, List.map_nil]); first | done | rfl | (simp only [List.length_drop, List.length_take]; rfl)) ?_; (with_reducible refine (varint_All.calls kj26 _ _ t316 t320 t321 _ ?side1 ?side2 A43.out).mono ?_); (case side1 => repeat (first | exact (Kd.R_reads' HO319.out).2.2 | (with_reducible refine Kd.C_alloc ?_ _) | (with_reducible refine Kd.C_drewN ?_ _) | (with_reducible refine Kd.C_drew ?_))); (case side2 => exact (Kd.R_reads' HO319.out).2.1); rintro e w47 ⟨rfl, hb⟩; refine ⟨_, rfl, ?_⟩; have n0_ := Aside0.mk (Kd.R_below (by (with_reducible repeat (first | apply Kd.R_alloc | apply Kd.R_drewN | apply Kd.R_drew)); exact HO319.out) hb); have n1_ := Aside0.mk (below_step (by repeat (first | (with_reducible first | exact HB.out | apply below_alloc | apply pw_below_drewN | apply below_drew1) | exact HB.out)) hb); clear HO319; clear HB; have HO319 := n0_; have HB := n1_; clear n0_ n1_; (try clear hb); (try clear hb2); (try clear hk); (try clear hi)))
                    go_meet
                    case rel => exact ⟨_, H', ⟨by have := HJ9.out; have := HJ26.out; first | omega | exact Nat.le_refl _⟩, ⟨by repeat (first | (with_reducible first | exact HB.out | apply below_alloc | apply pw_below_drewN | apply below_drew1) | exact HB.out)⟩⟩
                  · rw [if_neg c45] at H
                    have c45b0 : (t320.toList == t299.toList) = false := beq_eq_false_iff_ne.mpr c45
                    have c45b1 : (t320.toList != t299.toList) = true := bne_iff_ne.mpr c45
                    exact absurd (Option.some.inj H) (by rw [hr_.out]; decide)
                · rw [if_neg c44] at H
                  have c44b0 : (t321 == 0) = false := beq_eq_false_iff_ne.mpr c44
                  have c44b1 : (t321 != 0) = true := bne_iff_ne.mpr c44
                  exact absurd (Option.some.inj H) (by rw [hr_.out]; decide)
              · rw [if_neg c42] at H
                have c42b0 : (t317 == 0) = false := beq_eq_false_iff_ne.mpr c42
                have c42b1 : (t317 != 0) = true := bne_iff_ne.mpr c42
                (first | rw [c42b0] | (simp only [i64_w, i32_w]; rw [c42b0]) | skip)
                have H' := Aside0.mk H
                clear H
                go_wp2
                go_meet
                case rel => exact ⟨_, H', ⟨by have := HJ9.out; have := HJ26.out; first | omega | exact Nat.le_refl _⟩, ⟨by repeat (first | (with_reducible first | exact HB.out | apply below_alloc | apply pw_below_drewN | apply below_drew1) | exact HB.out)⟩⟩
            case rest =>
              clear HC40
              try clear c1
              try clear c2
              try clear p2
              try clear c3
              try clear c4
              try clear p6
              try clear c12
              try clear c14
              try clear c14b0
              try clear c14b1
              try clear c15
              try clear c15b0
              try clear c15b1
              try clear c16
              try clear c16b0
              try clear c16b1
              try clear c17
              try clear c17b0
              try clear c17b1
              try clear c18
              try clear c18b0
              try clear c18b1
              try clear c19
              try clear c19b0
              try clear c19b1
              try clear c20
              try clear c20b0
              try clear c20b1
              try clear c21
              try clear c21b0
              try clear c21b1
              try clear c22
              try clear c22b0
              try clear c22b1
              try clear c23
              try clear c25
              try clear c26
              try clear c27
              try clear c28
              try clear c28b0
              try clear c28b1
              try clear c30
              try clear c30b0
              try clear c30b1
              try clear c31
              try clear c31b0
              try clear c32
              try clear c32b0
              try clear c33
              try clear c33b0
              try clear c34
              try clear c34b0
              try clear c34b1
              try clear c35
              try clear c35b0
              try clear c35b1
              try clear c36
              try clear c36b0
              try clear c36b1
              try clear c37
              try clear c37b0
              try clear c37b1
              try clear c40
              try clear c41
              try clear c42
              try clear c42b0
              try clear c42b1
              try clear c44
              try clear c44b0
              try clear c44b1
              try clear c45
              try clear c45b0
              try clear c45b1
              try clear p2
              try clear p6
              obtain ⟨kq, HA, HJ39, HB⟩ := hcut
              cases kq with
              | zero => exact absurd HA.out (by simp [plaitlaw03_VarintBack.j2])
              | succ kj39 =>
                have H := HA.out
                clear HA
                simp only [plaitlaw03_VarintBack.j2] at H
                obtain ⟨ji48, hji48⟩ : ∃ j_ : Int, (mn (l1.length : Int) 60) = j_ := ⟨_, rfl⟩
                replace H : (if 0 ≤ (ji48) then (if (ji48) ≤ (l1.length : Int) then (plaitlaw03_VarintBack.l0 kj39 ([] : List Int) (l1.take ((ji48) : Int).toNat) ((l1.take ((ji48) : Int).toNat).length : Int) 0) else (none)) else (none)) = some r := by first | (rw [hji48] at H; exact H) | (simp only [hji48] at H ⊢; exact H)
                have hji48_ : (if 60 < (l1.length : Int) then 60 else (l1.length : Int)) = ji48 := hji48
                by_cases c49 : 0 ≤ (ji48)
                · rw [if_pos c49] at H
                  have c49b0 := eq_true c49
                  have c49b1 : decide (0 ≤ (ji48)) = true := decide_eq_true c49
                  clear c49
                  by_cases c50 : (ji48) ≤ (l1.length : Int)
                  · rw [if_pos c50] at H
                    have c50b0 := eq_true c50
                    have c50b1 : decide ((ji48) ≤ (l1.length : Int)) = true := decide_eq_true c50
                    clear c50
                    have H' := Aside0.mk H
                    clear H
                    obtain ⟨i051, hi051, _, hsz51, _⟩ := info_parts info3
                    obtain ⟨hcut51, hA51, hC51⟩ := print_take_of (P := Try.prog) (Value.int .i64) 0 28 3 .i64 Try.underlying28 hi051 hsz51 A1 c1 l1 (ji48) (of_decide_eq_true (by first | (with_reducible assumption) | assumption)) (of_decide_eq_true (by first | (with_reducible assumption) | assumption)) HC1.out
                    have HR322 := Aside0.mk (Kd.C_of_reads (h1 := fun _ => rfl) (hA51 _ (Kd.reads_of_C HR1.out)))
                    have HC322 := Aside0.mk hC51
                    clear hA51 hC51 hi051 hsz51
                    go_wp2
                    go_loopg [30, 179] kj39 (fun kq v30 v179 w' => ∃ (x30_4 : List Int) (x179_4 : Int), v179 = .int .i64 x179_4 ∧ Aside0 (plaitlaw03_VarintBack.l0 kq x30_4 (l1.take ((ji48) : Int).toNat) ((l1.take ((ji48) : Int).toNat).length : Int) x179_4 = some r) ∧ Aside0 (kq ≤ kj39) ∧ Aside0 (Kd.R (Kd.int .i64) 3 w' w.heap.size (fun _ => True) v30 x30_4) ∧ Aside0 (Below w.heap.size w w'))
                    case atStart => exact ⟨(([] : List Int)), (0), (by first | rfl | (simp; done) | (simp [*]; done)), H', ⟨Nat.le_refl _⟩, ⟨by first | exact Kd.R_nil _ _ _ _ _ | exact Kd.N_nil _ _ _ _ _ | exact Kd.V_nil _ _ _ _ _ | exact Kd.Q_nil _ _ _ _ _ | exact Kd.S_nil _ _ _ _ _⟩, ⟨by repeat (first | (with_reducible first | exact HB.out | apply below_alloc | apply pw_below_drewN | apply below_drew1) | exact HB.out)⟩⟩
                    case round =>
                      clear H'
                      try clear c1
                      try clear c2
                      try clear p2
                      try clear c3
                      try clear c4
                      try clear c5
                      try clear p6
                      try clear c12
                      try clear c14
                      try clear c14b0
                      try clear c14b1
                      try clear c15
                      try clear c15b0
                      try clear c15b1
                      try clear c16
                      try clear c16b0
                      try clear c16b1
                      try clear c17
                      try clear c17b0
                      try clear c17b1
                      try clear c18
                      try clear c18b0
                      try clear c18b1
                      try clear c19
                      try clear c19b0
                      try clear c19b1
                      try clear c20
                      try clear c20b0
                      try clear c20b1
                      try clear c21
                      try clear c21b0
                      try clear c21b1
                      try clear c22
                      try clear c22b0
                      try clear c22b1
                      try clear c23
                      try clear c25
                      try clear c26
                      try clear c27
                      try clear c28
                      try clear c28b0
                      try clear c28b1
                      try clear c30
                      try clear c30b0
                      try clear c30b1
                      try clear c31
                      try clear c31b0
                      try clear c32
                      try clear c32b0
                      try clear c33
                      try clear c33b0
                      try clear c34
                      try clear c34b0
                      try clear c34b1
                      try clear c35
                      try clear c35b0
                      try clear c35b1
                      try clear c36
                      try clear c36b0
                      try clear c36b1
                      try clear c37
                      try clear c37b0
                      try clear c37b1
                      try clear c40
                      try clear c41
                      try clear c42
                      try clear c42b0
                      try clear c42b1
                      try clear c44
                      try clear c44b0
                      try clear c44b1
                      try clear c45
                      try clear c45b0
                      try clear c45b1
                      try clear c49
                      try clear c49b0
                      try clear c49b1
                      try clear c50
                      try clear c50b0
                      try clear c50b1
                      try clear p2
                      try clear p6
                      obtain ⟨x30_4, x179_4, rfl, HA, HK4, HO_30, HB⟩ := hrel
                      cases gk with
                      | zero => exact absurd HA.out (by simp [plaitlaw03_VarintBack.l0])
                      | succ k4 =>
                        have H := HA.out
                        clear HA
                        simp only [plaitlaw03_VarintBack.l0] at H
                        by_cases c52 : x179_4 < ((l1.take ((ji48) : Int).toNat).length : Int)
                        · rw [if_pos c52] at H
                          have c52b0 : decide (x179_4 < ((l1.take ((ji48) : Int).toNat).length : Int)) = true := decide_eq_true c52
                          (try (have c52b0m : decide (x179_4 < max ji48 0) = true := by have e_ := hji48_; have e2_ : ((l1.take ((ji48) : Int).toNat).length : Int) = max ji48 0 := (by (rw [List.length_take]; split at e_ <;> omega)); rw [← e2_]; exact c52b0))
                          clear c52
                          by_cases c53 : 0 ≤ x179_4
                          · rw [if_pos c53] at H
                            have c53b0 : decide (0 ≤ x179_4) = true := decide_eq_true c53
                            clear c53
                            by_cases c54 : x179_4 < ((l1.take ((ji48) : Int).toNat).length : Int)
                            · rw [if_pos c54] at H
                              have c54b0 : decide (x179_4 < ((l1.take ((ji48) : Int).toNat).length : Int)) = true := decide_eq_true c54
                              (try (have c54b0m : decide (x179_4 < max ji48 0) = true := by have e_ := hji48_; have e2_ : ((l1.take ((ji48) : Int).toNat).length : Int) = max ji48 0 := (by (rw [List.length_take]; split at e_ <;> omega)); rw [← e2_]; exact c54b0))
                              clear c54
                              by_cases c55 : x30_4.length < 17592186044416
                              · rw [if_pos c55] at H
                                have LMc55 := Aside0.mk c55
                                clear c55
                                obtain ⟨y324, hy324⟩ : ∃ y_ : List Int, y_ = (x30_4 ++ [wrap64 (Int.tmod (IntKind.u64.wrap (rd (l1.take ((ji48) : Int).toNat) x179_4)) 2147483648)]) := ⟨_, rfl⟩
                                replace H : (plaitlaw03_VarintBack.l0 k4 y324 (l1.take ((ji48) : Int).toNat) ((l1.take ((ji48) : Int).toNat).length : Int) (wrap64 (x179_4 + 1))) = some r := by first | (rw [hy324]; with_reducible exact H) | (have H2_ := (Option.bind_some _ _).symm.trans H; rw [hy324]; with_reducible exact H2_) | (have H2_ := (Option.bind_some _ _).symm.trans H; with_reducible exact H2_) | with_reducible exact H | (rw [hy324]; exact H) | exact H
                                have Ny324 := Aside0.mk hy324
                                clear hy324
                                have H' := Aside0.mk H
                                clear H
                                have p323 : 0 ≤ (x179_4 : Int) := of_decide_eq_true (by first | (with_reducible assumption) | assumption)
                                have q323 : x179_4 < ((l1.take ((ji48) : Int).toNat).length : Int) := of_decide_eq_true (by first | (with_reducible assumption) | assumption)
                                (try (have q323m : (x179_4 < max ji48 0) = True := by have e_ := hji48_; have e2_ : ((l1.take ((ji48) : Int).toNat).length : Int) = max ji48 0 := (by (rw [List.length_take]; split at e_ <;> omega)); rw [← e2_]; exact eq_true q323))
                                obtain ⟨ad323, e323, hx323_0⟩ := Kd.at_int HR322.out x179_4 p323 q323
                                cases e323
                                replace hx323_0 := (HB.out.cell (World.block_lt_of_cell? w _ hx323_0)).trans hx323_0
                                replace p323 := eq_true p323
                                replace q323 := eq_true q323
                                go_wp2_with (first | ((with_reducible refine gate_builtin (b := .append) (xs := #[.tmp 183, .tmp 188]) rfl ?_); (try (refine gate_guard (by rfl) ?_; dsimp only)); at_builtin; refine Kd.R_append (Kd.int .i64) (w0 := w) w.heap.size rfl (.tmp 183) (.tmp 188) 28 3 (.int .i64 0) 8 rfl Try.underlying28 info3 rfl (by decide) (by omega) u30 x30_4 (wrap64 (Int.tmod (IntKind.u64.wrap (rd (l1.take ((ji48) : Int).toNat) x179_4)) 2147483648)) [.int .i64 (wrap64 (Int.tmod (IntKind.u64.wrap (rd (l1.take ((ji48) : Int).toNat) x179_4)) 2147483648))] (fun _ => True) (fun _ => False) rfl rfl ?aP (fun _ hk => hk.elim) ?aF ?aO ?aB ?aS ?aL ?_; (case aP => exact rfl); (case aB => exact (by repeat (first | (with_reducible first | exact HB.out | apply below_alloc | apply pw_below_drewN | apply below_drew1) | exact HB.out))); (case aF => exact (fun _ _ => trivial)); (case aO => exact (by (with_reducible repeat (first | apply Kd.R_alloc | apply Kd.R_drewN | apply Kd.R_drew)); exact HO_30.out)); (case aS => exact (below_size (by repeat (first | (with_reducible first | exact HB.out | apply below_alloc | apply pw_below_drewN | apply below_drew1) | exact HB.out)))); (case aL => have := LMc55.out; omega); intro v325 w56 ho hb hg hat; rw [← Ny324.out] at ho; have n0_ := Aside0.mk (hb); have n1_ := Aside0.mk (ho); clear HB; clear HO_30; have HB := n0_; have HO326 := n1_; clear n0_ n1_; clear ho hb hg hat))
                                go_roundg k4
                                case measure => have := HJ9.out; have := HJ26.out; have := HJ39.out; have := HK4.out; omega
                                case rel => exact ⟨(y324), (wrap64 (x179_4 + 1)), (by first | rfl | (simp; done) | (simp [*]; done)), H', ⟨by have := HJ9.out; have := HJ26.out; have := HJ39.out; have := HK4.out; omega⟩, ⟨by (with_reducible repeat (first | apply Kd.R_alloc | apply Kd.R_drewN | apply Kd.R_drew)); exact HO326.out⟩, ⟨by repeat (first | (with_reducible first | exact HB.out | apply below_alloc | apply pw_below_drewN | apply below_drew1) | exact HB.out)⟩⟩
                              · rw [if_neg c55] at H
                                exact absurd H (by simp)
                            · rw [if_neg c54] at H
                              exact absurd H (by simp)
                          · rw [if_neg c53] at H
                            exact absurd H (by simp)
                        · rw [if_neg c52] at H
                          have c52b0 : decide (x179_4 < ((l1.take ((ji48) : Int).toNat).length : Int)) = false := decide_eq_false c52
                          (try (have c52b0m : decide (x179_4 < max ji48 0) = false := by have e_ := hji48_; have e2_ : ((l1.take ((ji48) : Int).toNat).length : Int) = max ji48 0 := (by (rw [List.length_take]; split at e_ <;> omega)); rw [← e2_]; exact c52b0))
                          clear c52
                          replace H := Option.bind_eq_some_iff.mp H
                          obtain ⟨⟨t327, t328⟩, A570, H⟩ := H
                          replace H : ((varint_Every.f k4 t327).bind fun bt329 => (if t328 = 0 then (if bt329.2 = 0 then ((plaitref01_Rows.f k4 bt329.1 x30_4).bind fun t333 => (some t333)) else (some false)) else (some false))) = some r := H
                          have A57 := Aside0.mk A570
                          clear A570
                          replace H := Option.bind_eq_some_iff.mp H
                          obtain ⟨⟨t329, t330⟩, A580, H⟩ := H
                          replace H : (if t328 = 0 then (if t330 = 0 then ((plaitref01_Rows.f k4 t329 x30_4).bind fun t333 => (some t333)) else (some false)) else (some false)) = some r := H
                          have A58 := Aside0.mk A580
                          clear A580
                          by_cases c59 : t328 = 0
                          · rw [if_pos c59] at H
                            have c59b0 : (t328 == 0) = true := beq_iff_eq.mpr c59
                            have c59b1 : (t328 != 0) = false := bne_eq_false_iff_eq.mpr c59
                            clear c59
                            by_cases c60 : t330 = 0
                            · rw [if_pos c60] at H
                              have c60b0 : (t330 == 0) = true := beq_iff_eq.mpr c60
                              have c60b1 : (t330 != 0) = false := bne_eq_false_iff_eq.mpr c60
                              clear c60
                              replace H := Option.bind_eq_some_iff.mp H
                              obtain ⟨t333, A610, H⟩ := H
                              replace H : (some t333) = some r := H
                              have A61 := Aside0.mk A610
                              clear A610
                              obtain rfl := Option.some.inj H
                              obtain ⟨Ao62, co62, eo62⟩ := Kd.R_slice HO_30.out
                              subst eo62
                              go_wp2_with (first | ((with_reducible refine gate_callee (f := 40) rfl ?_); refine goesL_ (some 193) rfl rfl Try.func40 (by kernel_rfl) rfl #[.slice Ao62 x30_4.length co62] rfl (by (try simp only [List.map_toArray, List.map_cons, List.map_nil]); first | done | rfl | (simp only [List.length_drop, List.length_take]; rfl)) ?_; (with_reducible refine (varint_All.calls k4 _ _ x30_4 t327 t328 _ ?side1 ?side2 A57.out).mono ?_); (case side1 => repeat (first | exact (Kd.R_reads' HO_30.out).2.2 | (with_reducible refine Kd.C_alloc ?_ _) | (with_reducible refine Kd.C_drewN ?_ _) | (with_reducible refine Kd.C_drew ?_))); (case side2 => exact (Kd.R_reads' HO_30.out).2.1); rintro e w63 ⟨rfl, hb⟩; refine ⟨_, rfl, ?_⟩; have n0_ := Aside0.mk (Kd.R_below (by (with_reducible repeat (first | apply Kd.R_alloc | apply Kd.R_drewN | apply Kd.R_drew)); exact HO_30.out) hb); have n1_ := Aside0.mk (below_step (by repeat (first | (with_reducible first | exact HB.out | apply below_alloc | apply pw_below_drewN | apply below_drew1) | exact HB.out)) hb); clear HO_30; clear HB; have HO_30 := n0_; have HB := n1_; clear n0_ n1_; (try clear hb); (try clear hb2); (try clear hk); (try clear hi)) | ((with_reducible refine gate_callee (f := 41) rfl ?_); refine goesL_ (some 198) rfl rfl Try.func41 (by kernel_rfl) rfl #[.string t327] rfl (by (try simp only [List.map_toArray, List.map_cons, List.map_nil]); first | done | rfl | (simp only [List.length_drop, List.length_take]; rfl)) ?_; (with_reducible refine (varint_Every.calls k4 t327 t329 t330 _ A58.out).mono ?_); rintro e w64 ⟨v331, rfl, ho0, hb⟩; refine ⟨_, rfl, ?_⟩; have n0_ := Aside0.mk (Kd.R_elder' (by (with_reducible repeat (first | apply Kd.R_alloc | apply Kd.R_drewN | apply Kd.R_drew)); exact HO_30.out) (Kd.R_base ho0) hb); have n1_ := Aside0.mk (Kd.R_lower (Kd.R_new' ho0 (Kd.R_lt (by (with_reducible repeat (first | apply Kd.R_alloc | apply Kd.R_drewN | apply Kd.R_drew)); exact HO_30.out))) (below_size (by repeat (first | (with_reducible first | exact HB.out | apply below_alloc | apply pw_below_drewN | apply below_drew1) | exact HB.out)))); have n2_ := Aside0.mk (below_step (by repeat (first | (with_reducible first | exact HB.out | apply below_alloc | apply pw_below_drewN | apply below_drew1) | exact HB.out)) hb); clear HO_30; clear HB; have HO_30 := n0_; have HO332 := n1_; have HB := n2_; clear n0_ n1_ n2_; (try clear hb); (try clear hb2); (try clear hk); (try clear hi); (try clear ho0); obtain ⟨Ao65, co65, eo65⟩ := Kd.R_slice HO332.out; subst eo65) | (go_at_call 38; (with_reducible refine (plaitref01_Rows.calls k4 _ _ t329 _ _ x30_4 t333 _ ?side1 ?side2 ?side3 ?side4 A61.out).mono ?_); (case side1 => repeat (first | exact (Kd.R_reads' HO332.out).2.2 | (with_reducible refine Kd.C_alloc ?_ _) | (with_reducible refine Kd.C_drewN ?_ _) | (with_reducible refine Kd.C_drew ?_))); (case side2 => exact (Kd.R_reads' HO332.out).2.1); (case side3 => repeat (first | exact (Kd.R_reads' HO_30.out).2.2 | (with_reducible refine Kd.C_alloc ?_ _) | (with_reducible refine Kd.C_drewN ?_ _) | (with_reducible refine Kd.C_drew ?_))); (case side4 => exact (Kd.R_reads' HO_30.out).2.1); rintro e w' ⟨rfl, ⟨nd, rfl⟩⟩))
                              go_ret
                              exact ⟨by first | rfl | (simp [errW_none, errW_some] <;> rfl) | (simp only [← hji48]; first | rfl | (simp [errW_none, errW_some] <;> rfl)) | (simp [*, errW_none, errW_some] <;> rfl), by repeat (first | (with_reducible first | exact HB.out | apply below_alloc | apply pw_below_drewN | apply below_drew1) | exact HB.out)⟩
                            · rw [if_neg c60] at H
                              have c60b0 : (t330 == 0) = false := beq_eq_false_iff_ne.mpr c60
                              have c60b1 : (t330 != 0) = true := bne_iff_ne.mpr c60
                              exact absurd (Option.some.inj H) (by rw [hr_.out]; decide)
                          · rw [if_neg c59] at H
                            have c59b0 : (t328 == 0) = false := beq_eq_false_iff_ne.mpr c59
                            have c59b1 : (t328 != 0) = true := bne_iff_ne.mpr c59
                            exact absurd (Option.some.inj H) (by rw [hr_.out]; decide)
                  · rw [if_neg c50] at H
                    exact absurd H (by simp)
                · rw [if_neg c49] at H
                  exact absurd H (by simp)

/-- THE ONE PURE STATEMENT of plaitlaw03_VarintBack: yours. -/
def plaitlaw03_VarintBack.Pure : Prop := ∀ (a0 : Int) (l1 : List Int) (a2 : ByteArray) (a3 : Int), (Lit.int .i64 a0).wf = true → l1.length ≤ maxLen → l1.length * 8 ≤ 140737488351232 → (∀ x ∈ l1, (Lit.int .i64 x).wf = true) → a2.size ≤ 140737488351232 → (Lit.int .i64 a3).wf = true → ∃ k, plaitlaw03_VarintBack.f k a0 l1 a2 a3 = some true
theorem plaitlaw03_VarintBack.walk (P : plaitlaw03_VarintBack.Pure) (a0 : Int) (a1 : Option Addr) (len1 cap1 : Nat) (z1 : List Int) (a2 : ByteArray) (a3 : Int) (w : World) (w0 : (Lit.int .i64 a0).wf = true) (w1 : (a1 = none ∧ len1 = 0 ∧ cap1 = 0 ∧ z1 = []) ∨ ∃ x, a1 = some x ∧ len1 ≤ cap1 ∧ cap1 ≤ maxLen ∧ z1.length = cap1 ∧ (∀ i, i < z1.length → w.cell? (x.add i) = some (.int .i64 (z1.getD i 0))) ∧ ∀ n ∈ z1, (Lit.int .i64 n).wf = true) (y1 : len1 * 8 ≤ 140737488351232) (w2 : a2.size ≤ 140737488351232) (w3 : (Lit.int .i64 a3).wf = true) :
    Calls Try.prog 12 #[.int .i64 a0, .slice a1 len1 cap1, .string a2, .int .i64 a3] w fun e w' => e = .returned (.bool true) ∧ Below w.heap.size w w' := by
  obtain ⟨l1, rfl, hr1, hm1, hw1, hc1⟩ := ReadsInt.ofRowC w1
  obtain ⟨k, h⟩ := P a0 l1 a2 a3 w0 hm1 y1 hw1 w2 w3
  refine (plaitlaw03_VarintBack.calls k a0 _ _ l1 a2 a3 true w (Kd.C_of_reads (d := (0 : Int)) (h1 := fun _ => rfl) hr1) hc1 h ⟨rfl⟩).mono ?_
  rintro e w' ⟨rfl, hd⟩
  exact ⟨rfl, hd⟩

end Go.Proofs.Ytipmoncamnafbaa.X
