/- Contracts of functions, and walks of laws, written by this session's own program (wip/tools/xprint.py, a driver round the kit's print) out of Lean's print of the loaded program. Lean checks them. -/
import Derived.Test.YtipmoncamnafbaaX0
import Derived.Test.YtipmoncamnafbaaX8
import Derived.Test.YtipmoncamnafbaaX9
import Derived.Test.YtipmoncamnafbaaX10
import Derived.Test.YtipmoncamnafbaaGiven
namespace Go.Proofs.Ytipmoncamnafbaa.X
open Go.RowKit Go.Proofs.YtipmoncamnafbaaW.PrintWords Go.Proofs.YtipmoncamnafbaaW.PrintLast Go.Proofs.YtipmoncamnafbaaW.PrintMore
attribute [local go_sem] max2_int min2_int max_two min_two max_three min_three max_four min_four   -- for this text's walks alone
set_option linter.unusedVariables false
set_option linter.unusedSimpArgs false

/-! ### plaitlaw03_VarintTells: function 7 -/
mutual
def plaitlaw03_VarintTells.j0 : Nat → Int → ByteArray → Int → ByteArray → Int → Int → Int → Int → Int → Int → Int → Option (Bool)
  | 0, _, _, _, _, _, _, _, _, _, _, _ => none
  | k + 1, x0, x1, x2, x9, x10, x11, x12, x13, x14, x15, x16 => if x0 < (-1073741824) then (plaitlaw03_VarintTells.j1 k x0 x1 x2 x9 x10 x11 x12 x13 x14 x15 x16 true) else (plaitlaw03_VarintTells.j1 k x0 x1 x2 x9 x10 x11 x12 x13 x14 x15 x16 (decide (x0 ≥ 1073741824)))
def plaitlaw03_VarintTells.j1 : Nat → Int → ByteArray → Int → ByteArray → Int → Int → Int → Int → Int → Int → Int → Bool → Option (Bool)
  | 0, _, _, _, _, _, _, _, _, _, _, _, _ => none
  | k + 1, x0, x1, x2, x9, x10, x11, x12, x13, x14, x15, x16, x70 => if x70 = true then (if x10 = 1 then (if x9.toList = ([] : List UInt8) then (plaitlaw03_VarintTells.j2 k x1 x2 x11 x12 x13 x14 x15 x16) else (some false)) else (some false)) else (if x10 = 0 then ((plaitref03_Fold.f x0).bind fun t243 => ((plaitref03_Put.f k t243).bind fun t244 => (if x9.toList = t244.toList then (plaitlaw03_VarintTells.j2 k x1 x2 x11 x12 x13 x14 x15 x16) else (some false)))) else (some false))
def plaitlaw03_VarintTells.j2 : Nat → ByteArray → Int → Int → Int → Int → Int → Int → Int → Option (Bool)
  | 0, _, _, _, _, _, _, _, _ => none
  | k + 1, x1, x2, x11, x12, x13, x14, x15, x16 => if x2 < 0 then (plaitlaw03_VarintTells.j3 k x1 x2 x11 x12 x13 x14 x15 x16 true) else (plaitlaw03_VarintTells.j3 k x1 x2 x11 x12 x13 x14 x15 x16 (decide (x2 > (x1.size : Int))))
def plaitlaw03_VarintTells.j3 : Nat → ByteArray → Int → Int → Int → Int → Int → Int → Int → Bool → Option (Bool)
  | 0, _, _, _, _, _, _, _, _, _ => none
  | k + 1, x1, x2, x11, x12, x13, x14, x15, x16, x93 => if x93 = true then (if x13 = 3 then (if x16 = 3 then (if x11 = 0 then (if x12 = 0 then (if x14 = 0 then (some (x15 == 0)) else (some false)) else (some false)) else (some false)) else (some false)) else (some false)) else ((plaitref03_Get.f k x1 x2).bind fun bt245 => (if x11 = bt245.1 then (if x12 = bt245.2.1 then (if x13 = bt245.2.2 then (plaitlaw03_VarintTells.j4 k x14 x15 bt245.1 bt245.2.1 bt245.2.2 (x16 != bt245.2.2)) else (plaitlaw03_VarintTells.j4 k x14 x15 bt245.1 bt245.2.1 bt245.2.2 true)) else (plaitlaw03_VarintTells.j4 k x14 x15 bt245.1 bt245.2.1 bt245.2.2 true)) else (plaitlaw03_VarintTells.j4 k x14 x15 bt245.1 bt245.2.1 bt245.2.2 true)))
def plaitlaw03_VarintTells.j4 : Nat → Int → Int → Int → Int → Int → Bool → Option (Bool)
  | 0, _, _, _, _, _, _ => none
  | k + 1, x14, x15, x17, x18, x19, x140 => if x140 = true then (some false) else (if x19 = 0 then ((plaitref03_Unfold.f x17).bind fun t248 => (if x14 = t248 then (some (x15 == x18)) else (some false))) else (if x14 = 0 then (some (x15 == 0)) else (some false)))
end
def plaitlaw03_VarintTells.f (k : Nat) (a0 : Int) (a1 : ByteArray) (a2 : Int) : Option (Bool) := (plaitlaw03_few.f a1).bind fun t229 => ((varint_Put.f a0).bind fun bt230 => ((varint_Sign.f a0).bind fun bt232 => ((varint_Get.f k t229 a2).bind fun bt234 => ((varint_Signed.f k t229 a2).bind fun bt237 => ((plaitlaw03_alive.f k).bind fun t240 => (if t240 = true then ((plaitref03_Small.f a0).bind fun t241 => (if t241 = true then (if bt230.2 = 0 then ((plaitref03_Put.f k a0).bind fun t242 => (if bt230.1.toList = t242.toList then (plaitlaw03_VarintTells.j0 k a0 t229 a2 bt232.1 bt232.2 bt234.1 bt234.2.1 bt234.2.2 bt237.1 bt237.2.1 bt237.2.2) else (some false))) else (some false)) else (if bt230.2 = 1 then (if bt230.1.toList = ([] : List UInt8) then (plaitlaw03_VarintTells.j0 k a0 t229 a2 bt232.1 bt232.2 bt234.1 bt234.2.1 bt234.2.2 bt237.1 bt237.2.1 bt237.2.2) else (some false)) else (some false)))) else (some false)))))))
theorem plaitlaw03_VarintTells.mono_l : ∀ k, (∀ y0 y1 y2 y3 y4 y5 y6 y7 y8 y9 y10, LeO (plaitlaw03_VarintTells.j0 k y0 y1 y2 y3 y4 y5 y6 y7 y8 y9 y10) (plaitlaw03_VarintTells.j0 (k + 1) y0 y1 y2 y3 y4 y5 y6 y7 y8 y9 y10)) ∧ (∀ y0 y1 y2 y3 y4 y5 y6 y7 y8 y9 y10 y11, LeO (plaitlaw03_VarintTells.j1 k y0 y1 y2 y3 y4 y5 y6 y7 y8 y9 y10 y11) (plaitlaw03_VarintTells.j1 (k + 1) y0 y1 y2 y3 y4 y5 y6 y7 y8 y9 y10 y11)) ∧ (∀ y0 y1 y2 y3 y4 y5 y6 y7, LeO (plaitlaw03_VarintTells.j2 k y0 y1 y2 y3 y4 y5 y6 y7) (plaitlaw03_VarintTells.j2 (k + 1) y0 y1 y2 y3 y4 y5 y6 y7)) ∧ (∀ y0 y1 y2 y3 y4 y5 y6 y7 y8, LeO (plaitlaw03_VarintTells.j3 k y0 y1 y2 y3 y4 y5 y6 y7 y8) (plaitlaw03_VarintTells.j3 (k + 1) y0 y1 y2 y3 y4 y5 y6 y7 y8)) ∧ (∀ y0 y1 y2 y3 y4 y5, LeO (plaitlaw03_VarintTells.j4 k y0 y1 y2 y3 y4 y5) (plaitlaw03_VarintTells.j4 (k + 1) y0 y1 y2 y3 y4 y5))
  | 0 => ⟨fun _ _ _ _ _ _ _ _ _ _ _ r h => by simp [plaitlaw03_VarintTells.j0] at h, fun _ _ _ _ _ _ _ _ _ _ _ _ r h => by simp [plaitlaw03_VarintTells.j1] at h, fun _ _ _ _ _ _ _ _ r h => by simp [plaitlaw03_VarintTells.j2] at h, fun _ _ _ _ _ _ _ _ _ r h => by simp [plaitlaw03_VarintTells.j3] at h, fun _ _ _ _ _ _ r h => by simp [plaitlaw03_VarintTells.j4] at h⟩
  | k + 1 => by
    obtain ⟨ih0, ih1, ih2, ih3, ih4⟩ := plaitlaw03_VarintTells.mono_l k
    refine ⟨?_, ?_, ?_, ?_, ?_⟩
    · intro y0 y1 y2 y3 y4 y5 y6 y7 y8 y9 y10
      unfold plaitlaw03_VarintTells.j0
      repeat' first
      | (with_reducible exact ih0 _ _ _ _ _ _ _ _ _ _ _)
      | (with_reducible exact ih1 _ _ _ _ _ _ _ _ _ _ _ _)
      | (with_reducible exact ih2 _ _ _ _ _ _ _ _)
      | (with_reducible exact ih3 _ _ _ _ _ _ _ _ _)
      | (with_reducible exact ih4 _ _ _ _ _ _)
      | (with_reducible exact plaitlaw03_alive.mono _)
      | (with_reducible exact plaitref03_Get.mono _ _ _)
      | (with_reducible exact plaitref03_Put.mono _ _)
      | (with_reducible exact varint_Get.mono _ _ _)
      | (with_reducible exact varint_Signed.mono _ _ _)
      | (with_reducible exact LeO.refl _)
      | (with_reducible exact LeO.none _)
      | (with_reducible refine LeO.ite ?_ ?_)
      | (with_reducible refine LeO.bind ?_ (fun _ => ?_))
      | exact ih0 _ _ _ _ _ _ _ _ _ _ _
      | exact ih1 _ _ _ _ _ _ _ _ _ _ _ _
      | exact ih2 _ _ _ _ _ _ _ _
      | exact ih3 _ _ _ _ _ _ _ _ _
      | exact ih4 _ _ _ _ _ _
      | exact plaitlaw03_alive.mono _
      | exact plaitref03_Get.mono _ _ _
      | exact plaitref03_Put.mono _ _
      | exact varint_Get.mono _ _ _
      | exact varint_Signed.mono _ _ _
      | exact LeO.none _
      | refine LeO.ite ?_ ?_
      | refine LeO.bind ?_ (fun _ => ?_)
    · intro y0 y1 y2 y3 y4 y5 y6 y7 y8 y9 y10 y11
      unfold plaitlaw03_VarintTells.j1
      repeat' first
      | (with_reducible exact ih0 _ _ _ _ _ _ _ _ _ _ _)
      | (with_reducible exact ih1 _ _ _ _ _ _ _ _ _ _ _ _)
      | (with_reducible exact ih2 _ _ _ _ _ _ _ _)
      | (with_reducible exact ih3 _ _ _ _ _ _ _ _ _)
      | (with_reducible exact ih4 _ _ _ _ _ _)
      | (with_reducible exact plaitlaw03_alive.mono _)
      | (with_reducible exact plaitref03_Get.mono _ _ _)
      | (with_reducible exact plaitref03_Put.mono _ _)
      | (with_reducible exact varint_Get.mono _ _ _)
      | (with_reducible exact varint_Signed.mono _ _ _)
      | (with_reducible exact LeO.refl _)
      | (with_reducible exact LeO.none _)
      | (with_reducible refine LeO.ite ?_ ?_)
      | (with_reducible refine LeO.bind ?_ (fun _ => ?_))
      | exact ih0 _ _ _ _ _ _ _ _ _ _ _
      | exact ih1 _ _ _ _ _ _ _ _ _ _ _ _
      | exact ih2 _ _ _ _ _ _ _ _
      | exact ih3 _ _ _ _ _ _ _ _ _
      | exact ih4 _ _ _ _ _ _
      | exact plaitlaw03_alive.mono _
      | exact plaitref03_Get.mono _ _ _
      | exact plaitref03_Put.mono _ _
      | exact varint_Get.mono _ _ _
      | exact varint_Signed.mono _ _ _
      | exact LeO.none _
      | refine LeO.ite ?_ ?_
      | refine LeO.bind ?_ (fun _ => ?_)
    · intro y0 y1 y2 y3 y4 y5 y6 y7
      unfold plaitlaw03_VarintTells.j2
      repeat' first
      | (with_reducible exact ih0 _ _ _ _ _ _ _ _ _ _ _)
      | (with_reducible exact ih1 _ _ _ _ _ _ _ _ _ _ _ _)
      | (with_reducible exact ih2 _ _ _ _ _ _ _ _)
      | (with_reducible exact ih3 _ _ _ _ _ _ _ _ _)
      | (with_reducible exact ih4 _ _ _ _ _ _)
      | (with_reducible exact plaitlaw03_alive.mono _)
      | (with_reducible exact plaitref03_Get.mono _ _ _)
      | (with_reducible exact plaitref03_Put.mono _ _)
      | (with_reducible exact varint_Get.mono _ _ _)
      | (with_reducible exact varint_Signed.mono _ _ _)
      | (with_reducible exact LeO.refl _)
      | (with_reducible exact LeO.none _)
      | (with_reducible refine LeO.ite ?_ ?_)
      | (with_reducible refine LeO.bind ?_ (fun _ => ?_))
      | exact ih0 _ _ _ _ _ _ _ _ _ _ _
      | exact ih1 _ _ _ _ _ _ _ _ _ _ _ _
      | exact ih2 _ _ _ _ _ _ _ _
      | exact ih3 _ _ _ _ _ _ _ _ _
      | exact ih4 _ _ _ _ _ _
      | exact plaitlaw03_alive.mono _
      | exact plaitref03_Get.mono _ _ _
      | exact plaitref03_Put.mono _ _
      | exact varint_Get.mono _ _ _
      | exact varint_Signed.mono _ _ _
      | exact LeO.none _
      | refine LeO.ite ?_ ?_
      | refine LeO.bind ?_ (fun _ => ?_)
    · intro y0 y1 y2 y3 y4 y5 y6 y7 y8
      unfold plaitlaw03_VarintTells.j3
      repeat' first
      | (with_reducible exact ih0 _ _ _ _ _ _ _ _ _ _ _)
      | (with_reducible exact ih1 _ _ _ _ _ _ _ _ _ _ _ _)
      | (with_reducible exact ih2 _ _ _ _ _ _ _ _)
      | (with_reducible exact ih3 _ _ _ _ _ _ _ _ _)
      | (with_reducible exact ih4 _ _ _ _ _ _)
      | (with_reducible exact plaitlaw03_alive.mono _)
      | (with_reducible exact plaitref03_Get.mono _ _ _)
      | (with_reducible exact plaitref03_Put.mono _ _)
      | (with_reducible exact varint_Get.mono _ _ _)
      | (with_reducible exact varint_Signed.mono _ _ _)
      | (with_reducible exact LeO.refl _)
      | (with_reducible exact LeO.none _)
      | (with_reducible refine LeO.ite ?_ ?_)
      | (with_reducible refine LeO.bind ?_ (fun _ => ?_))
      | exact ih0 _ _ _ _ _ _ _ _ _ _ _
      | exact ih1 _ _ _ _ _ _ _ _ _ _ _ _
      | exact ih2 _ _ _ _ _ _ _ _
      | exact ih3 _ _ _ _ _ _ _ _ _
      | exact ih4 _ _ _ _ _ _
      | exact plaitlaw03_alive.mono _
      | exact plaitref03_Get.mono _ _ _
      | exact plaitref03_Put.mono _ _
      | exact varint_Get.mono _ _ _
      | exact varint_Signed.mono _ _ _
      | exact LeO.none _
      | refine LeO.ite ?_ ?_
      | refine LeO.bind ?_ (fun _ => ?_)
    · intro y0 y1 y2 y3 y4 y5
      unfold plaitlaw03_VarintTells.j4
      repeat' first
      | (with_reducible exact ih0 _ _ _ _ _ _ _ _ _ _ _)
      | (with_reducible exact ih1 _ _ _ _ _ _ _ _ _ _ _ _)
      | (with_reducible exact ih2 _ _ _ _ _ _ _ _)
      | (with_reducible exact ih3 _ _ _ _ _ _ _ _ _)
      | (with_reducible exact ih4 _ _ _ _ _ _)
      | (with_reducible exact plaitlaw03_alive.mono _)
      | (with_reducible exact plaitref03_Get.mono _ _ _)
      | (with_reducible exact plaitref03_Put.mono _ _)
      | (with_reducible exact varint_Get.mono _ _ _)
      | (with_reducible exact varint_Signed.mono _ _ _)
      | (with_reducible exact LeO.refl _)
      | (with_reducible exact LeO.none _)
      | (with_reducible refine LeO.ite ?_ ?_)
      | (with_reducible refine LeO.bind ?_ (fun _ => ?_))
      | exact ih0 _ _ _ _ _ _ _ _ _ _ _
      | exact ih1 _ _ _ _ _ _ _ _ _ _ _ _
      | exact ih2 _ _ _ _ _ _ _ _
      | exact ih3 _ _ _ _ _ _ _ _ _
      | exact ih4 _ _ _ _ _ _
      | exact plaitlaw03_alive.mono _
      | exact plaitref03_Get.mono _ _ _
      | exact plaitref03_Put.mono _ _
      | exact varint_Get.mono _ _ _
      | exact varint_Signed.mono _ _ _
      | exact LeO.none _
      | refine LeO.ite ?_ ?_
      | refine LeO.bind ?_ (fun _ => ?_)
theorem plaitlaw03_VarintTells.mono : ∀ a0 a1 a2 k, LeO (plaitlaw03_VarintTells.f k a0 a1 a2) (plaitlaw03_VarintTells.f (k + 1) a0 a1 a2) := by
  intro a0 a1 a2 k
  obtain ⟨ih0, ih1, ih2, ih3, ih4⟩ := plaitlaw03_VarintTells.mono_l k
  unfold plaitlaw03_VarintTells.f
  repeat' first
      | (with_reducible exact ih0 _ _ _ _ _ _ _ _ _ _ _)
      | (with_reducible exact ih1 _ _ _ _ _ _ _ _ _ _ _ _)
      | (with_reducible exact ih2 _ _ _ _ _ _ _ _)
      | (with_reducible exact ih3 _ _ _ _ _ _ _ _ _)
      | (with_reducible exact ih4 _ _ _ _ _ _)
      | (with_reducible exact plaitlaw03_alive.mono _)
      | (with_reducible exact plaitref03_Get.mono _ _ _)
      | (with_reducible exact plaitref03_Put.mono _ _)
      | (with_reducible exact varint_Get.mono _ _ _)
      | (with_reducible exact varint_Signed.mono _ _ _)
      | (with_reducible exact LeO.refl _)
      | (with_reducible exact LeO.none _)
      | (with_reducible refine LeO.ite ?_ ?_)
      | (with_reducible refine LeO.bind ?_ (fun _ => ?_))
      | exact ih0 _ _ _ _ _ _ _ _ _ _ _
      | exact ih1 _ _ _ _ _ _ _ _ _ _ _ _
      | exact ih2 _ _ _ _ _ _ _ _
      | exact ih3 _ _ _ _ _ _ _ _ _
      | exact ih4 _ _ _ _ _ _
      | exact plaitlaw03_alive.mono _
      | exact plaitref03_Get.mono _ _ _
      | exact plaitref03_Put.mono _ _
      | exact varint_Get.mono _ _ _
      | exact varint_Signed.mono _ _ _
      | exact LeO.none _
      | refine LeO.ite ?_ ?_
      | refine LeO.bind ?_ (fun _ => ?_)
set_option maxHeartbeats 8000000 in
set_option maxRecDepth 100000 in
theorem plaitlaw03_VarintTells.calls (k : Nat) (a0 : Int) (a1 : ByteArray) (a2 : Int) (r : Bool) (w : World) (h : plaitlaw03_VarintTells.f k a0 a1 a2 = some r) (hr_ : Aside0 (r = true)) :
    Calls Try.prog 7 #[.int .i64 a0, .string a1, .int .i64 a2] w fun e w' => e = .returned (.bool r) ∧ Below w.heap.size w w' := by
  have HB := Aside0.mk (Below.refl w.heap.size w)
  have H : ((plaitlaw03_few.f a1).bind fun t229 => ((varint_Put.f a0).bind fun bt230 => ((varint_Sign.f a0).bind fun bt232 => ((varint_Get.f k t229 a2).bind fun bt234 => ((varint_Signed.f k t229 a2).bind fun bt237 => ((plaitlaw03_alive.f k).bind fun t240 => (if t240 = true then ((plaitref03_Small.f a0).bind fun t241 => (if t241 = true then (if bt230.2 = 0 then ((plaitref03_Put.f k a0).bind fun t242 => (if bt230.1.toList = t242.toList then (plaitlaw03_VarintTells.j0 k a0 t229 a2 bt232.1 bt232.2 bt234.1 bt234.2.1 bt234.2.2 bt237.1 bt237.2.1 bt237.2.2) else (some false))) else (some false)) else (if bt230.2 = 1 then (if bt230.1.toList = ([] : List UInt8) then (plaitlaw03_VarintTells.j0 k a0 t229 a2 bt232.1 bt232.2 bt234.1 bt234.2.1 bt234.2.2 bt237.1 bt237.2.1 bt237.2.2) else (some false)) else (some false)))) else (some false)))))))) = some r := h
  clear h
  replace H := Option.bind_eq_some_iff.mp H
  obtain ⟨t229, A40, H⟩ := H
  replace H : ((varint_Put.f a0).bind fun bt230 => ((varint_Sign.f a0).bind fun bt232 => ((varint_Get.f k t229 a2).bind fun bt234 => ((varint_Signed.f k t229 a2).bind fun bt237 => ((plaitlaw03_alive.f k).bind fun t240 => (if t240 = true then ((plaitref03_Small.f a0).bind fun t241 => (if t241 = true then (if bt230.2 = 0 then ((plaitref03_Put.f k a0).bind fun t242 => (if bt230.1.toList = t242.toList then (plaitlaw03_VarintTells.j0 k a0 t229 a2 bt232.1 bt232.2 bt234.1 bt234.2.1 bt234.2.2 bt237.1 bt237.2.1 bt237.2.2) else (some false))) else (some false)) else (if bt230.2 = 1 then (if bt230.1.toList = ([] : List UInt8) then (plaitlaw03_VarintTells.j0 k a0 t229 a2 bt232.1 bt232.2 bt234.1 bt234.2.1 bt234.2.2 bt237.1 bt237.2.1 bt237.2.2) else (some false)) else (some false)))) else (some false))))))) = some r := H
  have A4 := Aside0.mk A40
  clear A40
  replace H := Option.bind_eq_some_iff.mp H
  obtain ⟨⟨t230, t231⟩, A50, H⟩ := H
  replace H : ((varint_Sign.f a0).bind fun bt232 => ((varint_Get.f k t229 a2).bind fun bt234 => ((varint_Signed.f k t229 a2).bind fun bt237 => ((plaitlaw03_alive.f k).bind fun t240 => (if t240 = true then ((plaitref03_Small.f a0).bind fun t241 => (if t241 = true then (if t231 = 0 then ((plaitref03_Put.f k a0).bind fun t242 => (if t230.toList = t242.toList then (plaitlaw03_VarintTells.j0 k a0 t229 a2 bt232.1 bt232.2 bt234.1 bt234.2.1 bt234.2.2 bt237.1 bt237.2.1 bt237.2.2) else (some false))) else (some false)) else (if t231 = 1 then (if t230.toList = ([] : List UInt8) then (plaitlaw03_VarintTells.j0 k a0 t229 a2 bt232.1 bt232.2 bt234.1 bt234.2.1 bt234.2.2 bt237.1 bt237.2.1 bt237.2.2) else (some false)) else (some false)))) else (some false)))))) = some r := H
  have A5 := Aside0.mk A50
  clear A50
  replace H := Option.bind_eq_some_iff.mp H
  obtain ⟨⟨t232, t233⟩, A60, H⟩ := H
  replace H : ((varint_Get.f k t229 a2).bind fun bt234 => ((varint_Signed.f k t229 a2).bind fun bt237 => ((plaitlaw03_alive.f k).bind fun t240 => (if t240 = true then ((plaitref03_Small.f a0).bind fun t241 => (if t241 = true then (if t231 = 0 then ((plaitref03_Put.f k a0).bind fun t242 => (if t230.toList = t242.toList then (plaitlaw03_VarintTells.j0 k a0 t229 a2 t232 t233 bt234.1 bt234.2.1 bt234.2.2 bt237.1 bt237.2.1 bt237.2.2) else (some false))) else (some false)) else (if t231 = 1 then (if t230.toList = ([] : List UInt8) then (plaitlaw03_VarintTells.j0 k a0 t229 a2 t232 t233 bt234.1 bt234.2.1 bt234.2.2 bt237.1 bt237.2.1 bt237.2.2) else (some false)) else (some false)))) else (some false))))) = some r := H
  have A6 := Aside0.mk A60
  clear A60
  replace H := Option.bind_eq_some_iff.mp H
  obtain ⟨⟨t234, t235, t236⟩, A70, H⟩ := H
  replace H : ((varint_Signed.f k t229 a2).bind fun bt237 => ((plaitlaw03_alive.f k).bind fun t240 => (if t240 = true then ((plaitref03_Small.f a0).bind fun t241 => (if t241 = true then (if t231 = 0 then ((plaitref03_Put.f k a0).bind fun t242 => (if t230.toList = t242.toList then (plaitlaw03_VarintTells.j0 k a0 t229 a2 t232 t233 t234 t235 t236 bt237.1 bt237.2.1 bt237.2.2) else (some false))) else (some false)) else (if t231 = 1 then (if t230.toList = ([] : List UInt8) then (plaitlaw03_VarintTells.j0 k a0 t229 a2 t232 t233 t234 t235 t236 bt237.1 bt237.2.1 bt237.2.2) else (some false)) else (some false)))) else (some false)))) = some r := H
  have A7 := Aside0.mk A70
  clear A70
  replace H := Option.bind_eq_some_iff.mp H
  obtain ⟨⟨t237, t238, t239⟩, A80, H⟩ := H
  replace H : ((plaitlaw03_alive.f k).bind fun t240 => (if t240 = true then ((plaitref03_Small.f a0).bind fun t241 => (if t241 = true then (if t231 = 0 then ((plaitref03_Put.f k a0).bind fun t242 => (if t230.toList = t242.toList then (plaitlaw03_VarintTells.j0 k a0 t229 a2 t232 t233 t234 t235 t236 t237 t238 t239) else (some false))) else (some false)) else (if t231 = 1 then (if t230.toList = ([] : List UInt8) then (plaitlaw03_VarintTells.j0 k a0 t229 a2 t232 t233 t234 t235 t236 t237 t238 t239) else (some false)) else (some false)))) else (some false))) = some r := H
  have A8 := Aside0.mk A80
  clear A80
  replace H := Option.bind_eq_some_iff.mp H
  obtain ⟨t240, A90, H⟩ := H
  replace H : (if t240 = true then ((plaitref03_Small.f a0).bind fun t241 => (if t241 = true then (if t231 = 0 then ((plaitref03_Put.f k a0).bind fun t242 => (if t230.toList = t242.toList then (plaitlaw03_VarintTells.j0 k a0 t229 a2 t232 t233 t234 t235 t236 t237 t238 t239) else (some false))) else (some false)) else (if t231 = 1 then (if t230.toList = ([] : List UInt8) then (plaitlaw03_VarintTells.j0 k a0 t229 a2 t232 t233 t234 t235 t236 t237 t238 t239) else (some false)) else (some false)))) else (some false)) = some r := H
  have A9 := Aside0.mk A90
  clear A90
  by_cases c10 : t240 = true
  · subst c10
    have H1 : ((plaitref03_Small.f a0).bind fun t241 => (if t241 = true then (if t231 = 0 then ((plaitref03_Put.f k a0).bind fun t242 => (if t230.toList = t242.toList then (plaitlaw03_VarintTells.j0 k a0 t229 a2 t232 t233 t234 t235 t236 t237 t238 t239) else (some false))) else (some false)) else (if t231 = 1 then (if t230.toList = ([] : List UInt8) then (plaitlaw03_VarintTells.j0 k a0 t229 a2 t232 t233 t234 t235 t236 t237 t238 t239) else (some false)) else (some false)))) = some r := by rw [if_pos rfl] at H; exact H
    clear H
    have H := H1
    clear H1
    replace H := Option.bind_eq_some_iff.mp H
    obtain ⟨t241, A110, H⟩ := H
    replace H : (if t241 = true then (if t231 = 0 then ((plaitref03_Put.f k a0).bind fun t242 => (if t230.toList = t242.toList then (plaitlaw03_VarintTells.j0 k a0 t229 a2 t232 t233 t234 t235 t236 t237 t238 t239) else (some false))) else (some false)) else (if t231 = 1 then (if t230.toList = ([] : List UInt8) then (plaitlaw03_VarintTells.j0 k a0 t229 a2 t232 t233 t234 t235 t236 t237 t238 t239) else (some false)) else (some false))) = some r := H
    have A11 := Aside0.mk A110
    clear A110
    have HC12 := Aside0.mk H
    clear H
    go_enter Try.func7, Try.ntmps7
    go_upto_if 50 with (first | ((with_reducible refine gate_callee (f := 25) rfl ?_); refine goesL_ (some 21) rfl rfl Try.func25 (by kernel_rfl) rfl #[.string a1] rfl (by (try simp only [List.map_toArray, List.map_cons, List.map_nil]); first | done | rfl | (simp only [List.length_drop, List.length_take]; rfl)) ?_; (with_reducible refine (plaitlaw03_few.calls a1 t229 _ A4.out).mono ?_); rintro e w13 ⟨rfl, hb⟩; refine ⟨_, rfl, ?_⟩; have n0_ := Aside0.mk (below_step (by repeat (first | (with_reducible first | exact HB.out | apply below_alloc | apply pw_below_drewN | apply below_drew1) | exact HB.out)) hb); clear HB; have HB := n0_; clear n0_; (try clear hb); (try clear hb2); (try clear hk); (try clear hi)) | ((with_reducible refine gate_callee (f := 23) rfl ?_); refine goesL_ (some 24) rfl rfl Try.func23 (by kernel_rfl) rfl #[.int .i64 a0] rfl (by (try simp only [List.map_toArray, List.map_cons, List.map_nil]); first | done | rfl | (simp only [List.length_drop, List.length_take]; rfl)) ?_; (with_reducible refine (varint_Put.calls a0 t230 t231 _ A5.out).mono ?_); rintro e w14 ⟨rfl, hb⟩; refine ⟨_, rfl, ?_⟩; have n0_ := Aside0.mk (below_step (by repeat (first | (with_reducible first | exact HB.out | apply below_alloc | apply pw_below_drewN | apply below_drew1) | exact HB.out)) hb); clear HB; have HB := n0_; clear n0_; (try clear hb); (try clear hb2); (try clear hk); (try clear hi)) | ((with_reducible refine gate_callee (f := 26) rfl ?_); refine goesL_ (some 29) rfl rfl Try.func26 (by kernel_rfl) rfl #[.int .i64 a0] rfl (by (try simp only [List.map_toArray, List.map_cons, List.map_nil]); first | done | rfl | (simp only [List.length_drop, List.length_take]; rfl)) ?_; (with_reducible refine (varint_Sign.calls a0 t232 t233 _ A6.out).mono ?_); rintro e w15 ⟨rfl, hb⟩; refine ⟨_, rfl, ?_⟩; have n0_ := Aside0.mk (below_step (by repeat (first | (with_reducible first | exact HB.out | apply below_alloc | apply pw_below_drewN | apply below_drew1) | exact HB.out)) hb); clear HB; have HB := n0_; clear n0_; (try clear hb); (try clear hb2); (try clear hk); (try clear hi)) | ((with_reducible refine gate_callee (f := 27) rfl ?_); refine goesL_ (some 35) rfl rfl Try.func27 (by kernel_rfl) rfl #[.string t229, .int .i64 a2] rfl (by (try simp only [List.map_toArray, List.map_cons, List.map_nil]); first | done | rfl | (simp only [List.length_drop, List.length_take]; rfl)) ?_; (with_reducible refine (varint_Get.calls k t229 a2 t234 t235 t236 _ A7.out).mono ?_); rintro e w' ⟨rfl, ⟨nd, rfl⟩⟩; refine ⟨_, rfl, ?_⟩) | ((with_reducible refine gate_callee (f := 28) rfl ?_); refine goesL_ (some 42) rfl rfl Try.func28 (by kernel_rfl) rfl #[.string t229, .int .i64 a2] rfl (by (try simp only [List.map_toArray, List.map_cons, List.map_nil]); first | done | rfl | (simp only [List.length_drop, List.length_take]; rfl)) ?_; (with_reducible refine (varint_Signed.calls k t229 a2 t237 t238 t239 _ A8.out).mono ?_); rintro e w' ⟨rfl, ⟨nd, rfl⟩⟩; refine ⟨_, rfl, ?_⟩) | ((with_reducible refine gate_callee (f := 24) rfl ?_); refine goesL_ (some 46) rfl rfl Try.func24 (by kernel_rfl) rfl #[] rfl (by (try simp only [List.map_toArray, List.map_cons, List.map_nil]); first | done | rfl | (simp only [List.length_drop, List.length_take]; rfl)) ?_; (with_reducible refine (plaitlaw03_alive.calls k  true _ A9.out).mono ?_); rintro e w16 ⟨rfl, hb⟩; refine ⟨_, rfl, ?_⟩; have n0_ := Aside0.mk (below_step (by repeat (first | (with_reducible first | exact HB.out | apply below_alloc | apply pw_below_drewN | apply below_drew1) | exact HB.out)) hb); clear HB; have HB := n0_; clear n0_; (try clear hb); (try clear hb2); (try clear hk); (try clear hi)) | ((with_reducible refine gate_callee (f := 29) rfl ?_); refine goesL_ (some 49) rfl rfl Try.func29 (by kernel_rfl) rfl #[.int .i64 a0] rfl (by (try simp only [List.map_toArray, List.map_cons, List.map_nil]); first | done | rfl | (simp only [List.length_drop, List.length_take]; rfl)) ?_; (with_reducible refine (plaitref03_Small.calls a0 t241 _ A11.out).mono ?_); rintro e w' ⟨rfl, ⟨nd, rfl⟩⟩; refine ⟨_, rfl, ?_⟩))
    (try simp only [Act.put, List.setIfInBounds_toArray, List.set_cons_zero, List.set_cons_succ])
    go_cut [] (fun wc => ∃ (kq : Nat), Aside0 (plaitlaw03_VarintTells.j0 kq a0 t229 a2 t232 t233 t234 t235 t236 t237 t238 t239 = some r) ∧ Aside0 (kq ≤ k) ∧ Aside0 (Below w.heap.size w wc))
    case first =>
      have H := HC12.out
      clear HC12
      by_cases c17 : t241 = true
      · subst c17
        have H1 : (if t231 = 0 then ((plaitref03_Put.f k a0).bind fun t242 => (if t230.toList = t242.toList then (plaitlaw03_VarintTells.j0 k a0 t229 a2 t232 t233 t234 t235 t236 t237 t238 t239) else (some false))) else (some false)) = some r := by rw [if_pos rfl] at H; exact H
        clear H
        have H := H1
        clear H1
        by_cases c18 : t231 = 0
        · rw [if_pos c18] at H
          have c18b0 : (t231 == 0) = true := beq_iff_eq.mpr c18
          have c18b1 : (t231 != 0) = false := bne_eq_false_iff_eq.mpr c18
          clear c18
          (first | rw [c18b0] | (simp only [i64_w, i32_w]; rw [c18b0]) | skip)
          replace H := Option.bind_eq_some_iff.mp H
          obtain ⟨t242, A190, H⟩ := H
          replace H : (if t230.toList = t242.toList then (plaitlaw03_VarintTells.j0 k a0 t229 a2 t232 t233 t234 t235 t236 t237 t238 t239) else (some false)) = some r := H
          have A19 := Aside0.mk A190
          clear A190
          by_cases c20 : t230.toList = t242.toList
          · rw [if_pos c20] at H
            have c20b0 : (t230.toList == t242.toList) = true := beq_iff_eq.mpr c20
            have c20b1 : (t230.toList != t242.toList) = false := bne_eq_false_iff_eq.mpr c20
            clear c20
            have H' := Aside0.mk H
            clear H
            go_wp2_with (first | (go_at_call 30; (with_reducible refine (plaitref03_Put.calls k a0 t242 _ A19.out).mono ?_); rintro e w21 ⟨rfl, hb⟩; have n0_ := Aside0.mk (below_step (by repeat (first | (with_reducible first | exact HB.out | apply below_alloc | apply pw_below_drewN | apply below_drew1) | exact HB.out)) hb); clear HB; have HB := n0_; clear n0_; (try clear hb); (try clear hb2); (try clear hk); (try clear hi)))
            go_meet
            case rel => exact ⟨_, H', ⟨by first | omega | exact Nat.le_refl _⟩, ⟨by repeat (first | (with_reducible first | exact HB.out | apply below_alloc | apply pw_below_drewN | apply below_drew1) | exact HB.out)⟩⟩
          · rw [if_neg c20] at H
            have c20b0 : (t230.toList == t242.toList) = false := beq_eq_false_iff_ne.mpr c20
            have c20b1 : (t230.toList != t242.toList) = true := bne_iff_ne.mpr c20
            exact absurd (Option.some.inj H) (by rw [hr_.out]; decide)
        · rw [if_neg c18] at H
          have c18b0 : (t231 == 0) = false := beq_eq_false_iff_ne.mpr c18
          have c18b1 : (t231 != 0) = true := bne_iff_ne.mpr c18
          (first | rw [c18b0] | (simp only [i64_w, i32_w]; rw [c18b0]) | skip)
          exact absurd (Option.some.inj H) (by rw [hr_.out]; decide)
      · replace c17 := Bool.eq_false_iff.mpr c17
        subst c17
        have H1 : (if t231 = 1 then (if t230.toList = ([] : List UInt8) then (plaitlaw03_VarintTells.j0 k a0 t229 a2 t232 t233 t234 t235 t236 t237 t238 t239) else (some false)) else (some false)) = some r := by rw [if_neg (show ¬ (false = true) by decide)] at H; exact H
        clear H
        have H := H1
        clear H1
        by_cases c22 : t231 = 1
        · rw [if_pos c22] at H
          have c22b0 : (t231 == 1) = true := beq_iff_eq.mpr c22
          have c22b1 : (t231 != 1) = false := bne_eq_false_iff_eq.mpr c22
          clear c22
          by_cases c23 : t230.toList = ([] : List UInt8)
          · rw [if_pos c23] at H
            have c23b0 : (t230.toList == ([] : List UInt8)) = true := beq_iff_eq.mpr c23
            have c23b1 : (t230.toList != ([] : List UInt8)) = false := bne_eq_false_iff_eq.mpr c23
            clear c23
            have H' := Aside0.mk H
            clear H
            go_wp2
            go_meet
            case rel => exact ⟨_, H', ⟨by first | omega | exact Nat.le_refl _⟩, ⟨by repeat (first | (with_reducible first | exact HB.out | apply below_alloc | apply pw_below_drewN | apply below_drew1) | exact HB.out)⟩⟩
          · rw [if_neg c23] at H
            have c23b0 : (t230.toList == ([] : List UInt8)) = false := beq_eq_false_iff_ne.mpr c23
            have c23b1 : (t230.toList != ([] : List UInt8)) = true := bne_iff_ne.mpr c23
            exact absurd (Option.some.inj H) (by rw [hr_.out]; decide)
        · rw [if_neg c22] at H
          have c22b0 : (t231 == 1) = false := beq_eq_false_iff_ne.mpr c22
          have c22b1 : (t231 != 1) = true := bne_iff_ne.mpr c22
          exact absurd (Option.some.inj H) (by rw [hr_.out]; decide)
    case rest =>
      clear HC12
      try clear c1
      try clear c2
      try clear p2
      try clear c7
      try clear c10
      try clear c17
      try clear c18
      try clear c18b0
      try clear c18b1
      try clear c20
      try clear c20b0
      try clear c20b1
      try clear c22
      try clear c22b0
      try clear c22b1
      try clear c23
      try clear c23b0
      try clear c23b1
      obtain ⟨kq, HA, HJ11, HB⟩ := hcut
      cases kq with
      | zero => exact absurd HA.out (by simp [plaitlaw03_VarintTells.j0])
      | succ kj11 =>
        have H := HA.out
        clear HA
        simp only [plaitlaw03_VarintTells.j0] at H
        have HC24 := Aside0.mk H
        clear H
        go_upto_region 13 with (fail)
        go_cut [70] (fun v70 wc => ∃ (kq : Nat) (x70_23 : Bool), v70 = .bool x70_23 ∧ Aside0 (plaitlaw03_VarintTells.j1 kq a0 t229 a2 t232 t233 t234 t235 t236 t237 t238 t239 x70_23 = some r) ∧ Aside0 (kq ≤ kj11) ∧ Aside0 (Below w.heap.size w wc))
        case first =>
          have H := HC24.out
          clear HC24
          by_cases c25 : a0 < (-1073741824)
          · rw [if_pos c25] at H
            have c25b0 : decide (a0 < (-1073741824)) = true := decide_eq_true c25
            clear c25
            (first | rw [c25b0] | (simp only [i64_w, i32_w]; rw [c25b0]) | skip)
            have H' := Aside0.mk H
            clear H
            go_wp2
            go_meet
            case rel => exact ⟨_, (true), (by first | rfl | (simp; done) | (simp [*]; done)), H', ⟨by have := HJ11.out; first | omega | exact Nat.le_refl _⟩, ⟨by repeat (first | (with_reducible first | exact HB.out | apply below_alloc | apply pw_below_drewN | apply below_drew1) | exact HB.out)⟩⟩
          · rw [if_neg c25] at H
            have c25b0 : decide (a0 < (-1073741824)) = false := decide_eq_false c25
            clear c25
            (first | rw [c25b0] | (simp only [i64_w, i32_w]; rw [c25b0]) | skip)
            have H' := Aside0.mk H
            clear H
            go_wp2
            go_meet
            case rel => exact ⟨_, (decide (a0 ≥ 1073741824)), (by first | rfl | (simp; done) | (simp [*]; done)), H', ⟨by have := HJ11.out; first | omega | exact Nat.le_refl _⟩, ⟨by repeat (first | (with_reducible first | exact HB.out | apply below_alloc | apply pw_below_drewN | apply below_drew1) | exact HB.out)⟩⟩
        case rest =>
          clear HC24
          try clear c1
          try clear c2
          try clear p2
          try clear c7
          try clear c10
          try clear c17
          try clear c18
          try clear c18b0
          try clear c18b1
          try clear c20
          try clear c20b0
          try clear c20b1
          try clear c22
          try clear c22b0
          try clear c22b1
          try clear c23
          try clear c23b0
          try clear c23b1
          try clear c24
          try clear c25
          try clear c25b0
          try clear p2
          obtain ⟨kq, x70_23, rfl, HA, HJ23, HB⟩ := hcut
          cases kq with
          | zero => exact absurd HA.out (by simp [plaitlaw03_VarintTells.j1])
          | succ kj23 =>
            have H := HA.out
            clear HA
            simp only [plaitlaw03_VarintTells.j1] at H
            have HC26 := Aside0.mk H
            clear H
            go_upto_if 70 with (fail)
            go_cut [] (fun wc => ∃ (kq : Nat), Aside0 (plaitlaw03_VarintTells.j2 kq t229 a2 t234 t235 t236 t237 t238 t239 = some r) ∧ Aside0 (kq ≤ kj23) ∧ Aside0 (Below w.heap.size w wc))
            case first =>
              have H := HC26.out
              clear HC26
              by_cases c27 : x70_23 = true
              · subst c27
                have H1 : (if t233 = 1 then (if t232.toList = ([] : List UInt8) then (plaitlaw03_VarintTells.j2 kj23 t229 a2 t234 t235 t236 t237 t238 t239) else (some false)) else (some false)) = some r := by rw [if_pos rfl] at H; exact H
                clear H
                have H := H1
                clear H1
                by_cases c28 : t233 = 1
                · rw [if_pos c28] at H
                  have c28b0 : (t233 == 1) = true := beq_iff_eq.mpr c28
                  have c28b1 : (t233 != 1) = false := bne_eq_false_iff_eq.mpr c28
                  clear c28
                  (first | rw [c28b0] | (simp only [i64_w, i32_w]; rw [c28b0]) | skip)
                  by_cases c29 : t232.toList = ([] : List UInt8)
                  · rw [if_pos c29] at H
                    have c29b0 : (t232.toList == ([] : List UInt8)) = true := beq_iff_eq.mpr c29
                    have c29b1 : (t232.toList != ([] : List UInt8)) = false := bne_eq_false_iff_eq.mpr c29
                    clear c29
                    have H' := Aside0.mk H
                    clear H
                    go_wp2
                    go_meet
                    case rel => exact ⟨_, H', ⟨by have := HJ11.out; have := HJ23.out; first | omega | exact Nat.le_refl _⟩, ⟨by repeat (first | (with_reducible first | exact HB.out | apply below_alloc | apply pw_below_drewN | apply below_drew1) | exact HB.out)⟩⟩
                  · rw [if_neg c29] at H
                    have c29b0 : (t232.toList == ([] : List UInt8)) = false := beq_eq_false_iff_ne.mpr c29
                    have c29b1 : (t232.toList != ([] : List UInt8)) = true := bne_iff_ne.mpr c29
                    exact absurd (Option.some.inj H) (by rw [hr_.out]; decide)
                · rw [if_neg c28] at H
                  have c28b0 : (t233 == 1) = false := beq_eq_false_iff_ne.mpr c28
                  have c28b1 : (t233 != 1) = true := bne_iff_ne.mpr c28
                  (first | rw [c28b0] | (simp only [i64_w, i32_w]; rw [c28b0]) | skip)
                  exact absurd (Option.some.inj H) (by rw [hr_.out]; decide)
              · replace c27 := Bool.eq_false_iff.mpr c27
                subst c27
                have H1 : (if t233 = 0 then ((plaitref03_Fold.f a0).bind fun t243 => ((plaitref03_Put.f kj23 t243).bind fun t244 => (if t232.toList = t244.toList then (plaitlaw03_VarintTells.j2 kj23 t229 a2 t234 t235 t236 t237 t238 t239) else (some false)))) else (some false)) = some r := by rw [if_neg (show ¬ (false = true) by decide)] at H; exact H
                clear H
                have H := H1
                clear H1
                by_cases c30 : t233 = 0
                · rw [if_pos c30] at H
                  have c30b0 : (t233 == 0) = true := beq_iff_eq.mpr c30
                  have c30b1 : (t233 != 0) = false := bne_eq_false_iff_eq.mpr c30
                  clear c30
                  replace H := Option.bind_eq_some_iff.mp H
                  obtain ⟨t243, A310, H⟩ := H
                  replace H : ((plaitref03_Put.f kj23 t243).bind fun t244 => (if t232.toList = t244.toList then (plaitlaw03_VarintTells.j2 kj23 t229 a2 t234 t235 t236 t237 t238 t239) else (some false))) = some r := H
                  have A31 := Aside0.mk A310
                  clear A310
                  replace H := Option.bind_eq_some_iff.mp H
                  obtain ⟨t244, A320, H⟩ := H
                  replace H : (if t232.toList = t244.toList then (plaitlaw03_VarintTells.j2 kj23 t229 a2 t234 t235 t236 t237 t238 t239) else (some false)) = some r := H
                  have A32 := Aside0.mk A320
                  clear A320
                  by_cases c33 : t232.toList = t244.toList
                  · rw [if_pos c33] at H
                    have c33b0 : (t232.toList == t244.toList) = true := beq_iff_eq.mpr c33
                    have c33b1 : (t232.toList != t244.toList) = false := bne_eq_false_iff_eq.mpr c33
                    clear c33
                    have H' := Aside0.mk H
                    clear H
                    go_wp2_with (first | (go_at_call 31; (with_reducible refine (plaitref03_Fold.calls a0 t243 _ A31.out).mono ?_); rintro e w' ⟨rfl, ⟨nd, rfl⟩⟩) | (go_at_call 30; (with_reducible refine (plaitref03_Put.calls kj23 t243 t244 _ A32.out).mono ?_); rintro e w34 ⟨rfl, hb⟩; have n0_ := Aside0.mk (below_step (by repeat (first | (with_reducible first | exact HB.out | apply below_alloc | apply pw_below_drewN | apply below_drew1) | exact HB.out)) hb); clear HB; have HB := n0_; clear n0_; (try clear hb); (try clear hb2); (try clear hk); (try clear hi)))
                    go_meet
                    case rel => exact ⟨_, H', ⟨by have := HJ11.out; have := HJ23.out; first | omega | exact Nat.le_refl _⟩, ⟨by repeat (first | (with_reducible first | exact HB.out | apply below_alloc | apply pw_below_drewN | apply below_drew1) | exact HB.out)⟩⟩
                  · rw [if_neg c33] at H
                    have c33b0 : (t232.toList == t244.toList) = false := beq_eq_false_iff_ne.mpr c33
                    have c33b1 : (t232.toList != t244.toList) = true := bne_iff_ne.mpr c33
                    exact absurd (Option.some.inj H) (by rw [hr_.out]; decide)
                · rw [if_neg c30] at H
                  have c30b0 : (t233 == 0) = false := beq_eq_false_iff_ne.mpr c30
                  have c30b1 : (t233 != 0) = true := bne_iff_ne.mpr c30
                  exact absurd (Option.some.inj H) (by rw [hr_.out]; decide)
            case rest =>
              clear HC26
              try clear c1
              try clear c2
              try clear p2
              try clear c3
              try clear c7
              try clear c10
              try clear c17
              try clear c18
              try clear c18b0
              try clear c18b1
              try clear c20
              try clear c20b0
              try clear c20b1
              try clear c22
              try clear c22b0
              try clear c22b1
              try clear c23
              try clear c23b0
              try clear c23b1
              try clear c24
              try clear c25
              try clear c25b0
              try clear c26
              try clear c27
              try clear c28
              try clear c28b0
              try clear c28b1
              try clear c29
              try clear c29b0
              try clear c29b1
              try clear c30
              try clear c30b0
              try clear c30b1
              try clear c33
              try clear c33b0
              try clear c33b1
              try clear p2
              obtain ⟨kq, HA, HJ25, HB⟩ := hcut
              cases kq with
              | zero => exact absurd HA.out (by simp [plaitlaw03_VarintTells.j2])
              | succ kj25 =>
                have H := HA.out
                clear HA
                simp only [plaitlaw03_VarintTells.j2] at H
                have HC35 := Aside0.mk H
                clear H
                go_upto_region 18 with (fail)
                go_cut [93] (fun v93 wc => ∃ (kq : Nat) (x93_34 : Bool), v93 = .bool x93_34 ∧ Aside0 (plaitlaw03_VarintTells.j3 kq t229 a2 t234 t235 t236 t237 t238 t239 x93_34 = some r) ∧ Aside0 (kq ≤ kj25) ∧ Aside0 (Below w.heap.size w wc))
                case first =>
                  have H := HC35.out
                  clear HC35
                  by_cases c36 : a2 < 0
                  · rw [if_pos c36] at H
                    have c36b0 : decide (a2 < 0) = true := decide_eq_true c36
                    clear c36
                    (first | rw [c36b0] | (simp only [i64_w, i32_w]; rw [c36b0]) | skip)
                    have H' := Aside0.mk H
                    clear H
                    go_wp2
                    go_meet
                    case rel => exact ⟨_, (true), (by first | rfl | (simp; done) | (simp [*]; done)), H', ⟨by have := HJ11.out; have := HJ23.out; have := HJ25.out; first | omega | exact Nat.le_refl _⟩, ⟨by repeat (first | (with_reducible first | exact HB.out | apply below_alloc | apply pw_below_drewN | apply below_drew1) | exact HB.out)⟩⟩
                  · rw [if_neg c36] at H
                    have c36b0 : decide (a2 < 0) = false := decide_eq_false c36
                    clear c36
                    (first | rw [c36b0] | (simp only [i64_w, i32_w]; rw [c36b0]) | skip)
                    have H' := Aside0.mk H
                    clear H
                    go_wp2
                    go_meet
                    case rel => exact ⟨_, (decide (a2 > (t229.size : Int))), (by first | rfl | (simp; done) | (simp [*]; done)), H', ⟨by have := HJ11.out; have := HJ23.out; have := HJ25.out; first | omega | exact Nat.le_refl _⟩, ⟨by repeat (first | (with_reducible first | exact HB.out | apply below_alloc | apply pw_below_drewN | apply below_drew1) | exact HB.out)⟩⟩
                case rest =>
                  clear HC35
                  try clear c1
                  try clear c2
                  try clear p2
                  try clear c3
                  try clear c7
                  try clear c10
                  try clear c17
                  try clear c18
                  try clear c18b0
                  try clear c18b1
                  try clear c20
                  try clear c20b0
                  try clear c20b1
                  try clear c22
                  try clear c22b0
                  try clear c22b1
                  try clear c23
                  try clear c23b0
                  try clear c23b1
                  try clear c24
                  try clear c25
                  try clear c25b0
                  try clear c26
                  try clear c27
                  try clear c28
                  try clear c28b0
                  try clear c28b1
                  try clear c29
                  try clear c29b0
                  try clear c29b1
                  try clear c30
                  try clear c30b0
                  try clear c30b1
                  try clear c33
                  try clear c33b0
                  try clear c33b1
                  try clear c36
                  try clear c36b0
                  try clear p2
                  obtain ⟨kq, x93_34, rfl, HA, HJ34, HB⟩ := hcut
                  cases kq with
                  | zero => exact absurd HA.out (by simp [plaitlaw03_VarintTells.j3])
                  | succ kj34 =>
                    have H := HA.out
                    clear HA
                    simp only [plaitlaw03_VarintTells.j3] at H
                    by_cases c37 : x93_34 = true
                    · subst c37
                      have H1 : (if t236 = 3 then (if t239 = 3 then (if t234 = 0 then (if t235 = 0 then (if t237 = 0 then (some (t238 == 0)) else (some false)) else (some false)) else (some false)) else (some false)) else (some false)) = some r := by rw [if_pos rfl] at H; exact H
                      clear H
                      have H := H1
                      clear H1
                      by_cases c38 : t236 = 3
                      · rw [if_pos c38] at H
                        have c38b0 : (t236 == 3) = true := beq_iff_eq.mpr c38
                        have c38b1 : (t236 != 3) = false := bne_eq_false_iff_eq.mpr c38
                        clear c38
                        by_cases c39 : t239 = 3
                        · rw [if_pos c39] at H
                          have c39b0 : (t239 == 3) = true := beq_iff_eq.mpr c39
                          have c39b1 : (t239 != 3) = false := bne_eq_false_iff_eq.mpr c39
                          clear c39
                          by_cases c40 : t234 = 0
                          · rw [if_pos c40] at H
                            have c40b0 : (t234 == 0) = true := beq_iff_eq.mpr c40
                            have c40b1 : (t234 != 0) = false := bne_eq_false_iff_eq.mpr c40
                            clear c40
                            by_cases c41 : t235 = 0
                            · rw [if_pos c41] at H
                              have c41b0 : (t235 == 0) = true := beq_iff_eq.mpr c41
                              have c41b1 : (t235 != 0) = false := bne_eq_false_iff_eq.mpr c41
                              clear c41
                              by_cases c42 : t237 = 0
                              · rw [if_pos c42] at H
                                have c42b0 : (t237 == 0) = true := beq_iff_eq.mpr c42
                                have c42b1 : (t237 != 0) = false := bne_eq_false_iff_eq.mpr c42
                                clear c42
                                obtain rfl := Option.some.inj H
                                go_wp2
                                go_ret
                                exact ⟨by first | rfl | (simp [errW_none, errW_some] <;> rfl) | (simp [*, errW_none, errW_some] <;> rfl), by repeat (first | (with_reducible first | exact HB.out | apply below_alloc | apply pw_below_drewN | apply below_drew1) | exact HB.out)⟩
                              · rw [if_neg c42] at H
                                have c42b0 : (t237 == 0) = false := beq_eq_false_iff_ne.mpr c42
                                have c42b1 : (t237 != 0) = true := bne_iff_ne.mpr c42
                                exact absurd (Option.some.inj H) (by rw [hr_.out]; decide)
                            · rw [if_neg c41] at H
                              have c41b0 : (t235 == 0) = false := beq_eq_false_iff_ne.mpr c41
                              have c41b1 : (t235 != 0) = true := bne_iff_ne.mpr c41
                              exact absurd (Option.some.inj H) (by rw [hr_.out]; decide)
                          · rw [if_neg c40] at H
                            have c40b0 : (t234 == 0) = false := beq_eq_false_iff_ne.mpr c40
                            have c40b1 : (t234 != 0) = true := bne_iff_ne.mpr c40
                            exact absurd (Option.some.inj H) (by rw [hr_.out]; decide)
                        · rw [if_neg c39] at H
                          have c39b0 : (t239 == 3) = false := beq_eq_false_iff_ne.mpr c39
                          have c39b1 : (t239 != 3) = true := bne_iff_ne.mpr c39
                          exact absurd (Option.some.inj H) (by rw [hr_.out]; decide)
                      · rw [if_neg c38] at H
                        have c38b0 : (t236 == 3) = false := beq_eq_false_iff_ne.mpr c38
                        have c38b1 : (t236 != 3) = true := bne_iff_ne.mpr c38
                        exact absurd (Option.some.inj H) (by rw [hr_.out]; decide)
                    · replace c37 := Bool.eq_false_iff.mpr c37
                      subst c37
                      have H1 : ((plaitref03_Get.f kj34 t229 a2).bind fun bt245 => (if t234 = bt245.1 then (if t235 = bt245.2.1 then (if t236 = bt245.2.2 then (plaitlaw03_VarintTells.j4 kj34 t237 t238 bt245.1 bt245.2.1 bt245.2.2 (t239 != bt245.2.2)) else (plaitlaw03_VarintTells.j4 kj34 t237 t238 bt245.1 bt245.2.1 bt245.2.2 true)) else (plaitlaw03_VarintTells.j4 kj34 t237 t238 bt245.1 bt245.2.1 bt245.2.2 true)) else (plaitlaw03_VarintTells.j4 kj34 t237 t238 bt245.1 bt245.2.1 bt245.2.2 true))) = some r := by rw [if_neg (show ¬ (false = true) by decide)] at H; exact H
                      clear H
                      have H := H1
                      clear H1
                      replace H := Option.bind_eq_some_iff.mp H
                      obtain ⟨⟨t245, t246, t247⟩, A430, H⟩ := H
                      replace H : (if t234 = t245 then (if t235 = t246 then (if t236 = t247 then (plaitlaw03_VarintTells.j4 kj34 t237 t238 t245 t246 t247 (t239 != t247)) else (plaitlaw03_VarintTells.j4 kj34 t237 t238 t245 t246 t247 true)) else (plaitlaw03_VarintTells.j4 kj34 t237 t238 t245 t246 t247 true)) else (plaitlaw03_VarintTells.j4 kj34 t237 t238 t245 t246 t247 true)) = some r := H
                      have A43 := Aside0.mk A430
                      clear A430
                      have HC44 := Aside0.mk H
                      clear H
                      go_upto_region 21 with (first | ((with_reducible refine gate_callee (f := 32) rfl ?_); refine goesL_ (some 119) rfl rfl Try.func32 (by kernel_rfl) rfl #[.string t229, .int .i64 a2] rfl (by (try simp only [List.map_toArray, List.map_cons, List.map_nil]); first | done | rfl | (simp only [List.length_drop, List.length_take]; rfl)) ?_; (with_reducible refine (plaitref03_Get.calls kj34 t229 a2 t245 t246 t247 _ A43.out).mono ?_); rintro e w' ⟨rfl, ⟨nd, rfl⟩⟩; refine ⟨_, rfl, ?_⟩))
                      (try simp only [Act.put, List.setIfInBounds_toArray, List.set_cons_zero, List.set_cons_succ])
                      go_cut [140] (fun v140 wc => ∃ (kq : Nat) (x140_43 : Bool), v140 = .bool x140_43 ∧ Aside0 (plaitlaw03_VarintTells.j4 kq t237 t238 t245 t246 t247 x140_43 = some r) ∧ Aside0 (kq ≤ kj34) ∧ Aside0 (Below w.heap.size w wc))
                      case first =>
                        have H := HC44.out
                        clear HC44
                        by_cases c45 : t234 = t245
                        · rw [if_pos c45] at H
                          have c45b0 : (t234 == t245) = true := beq_iff_eq.mpr c45
                          have c45b1 : (t234 != t245) = false := bne_eq_false_iff_eq.mpr c45
                          clear c45
                          (first | rw [c45b0] | (simp only [i64_w, i32_w]; rw [c45b0]) | skip)
                          by_cases c46 : t235 = t246
                          · rw [if_pos c46] at H
                            have c46b0 : (t235 == t246) = true := beq_iff_eq.mpr c46
                            have c46b1 : (t235 != t246) = false := bne_eq_false_iff_eq.mpr c46
                            clear c46
                            by_cases c47 : t236 = t247
                            · rw [if_pos c47] at H
                              have c47b0 : (t236 == t247) = true := beq_iff_eq.mpr c47
                              have c47b1 : (t236 != t247) = false := bne_eq_false_iff_eq.mpr c47
                              clear c47
                              have H' := Aside0.mk H
                              clear H
                              go_wp2
                              go_meet
                              case rel => exact ⟨_, ((t239 != t247)), (by first | rfl | (simp; done) | (simp [*]; done)), H', ⟨by have := HJ11.out; have := HJ23.out; have := HJ25.out; have := HJ34.out; first | omega | exact Nat.le_refl _⟩, ⟨by repeat (first | (with_reducible first | exact HB.out | apply below_alloc | apply pw_below_drewN | apply below_drew1) | exact HB.out)⟩⟩
                            · rw [if_neg c47] at H
                              have c47b0 : (t236 == t247) = false := beq_eq_false_iff_ne.mpr c47
                              have c47b1 : (t236 != t247) = true := bne_iff_ne.mpr c47
                              have H' := Aside0.mk H
                              clear H
                              go_wp2
                              go_meet
                              case rel => exact ⟨_, (true), (by first | rfl | (simp; done) | (simp [*]; done)), H', ⟨by have := HJ11.out; have := HJ23.out; have := HJ25.out; have := HJ34.out; first | omega | exact Nat.le_refl _⟩, ⟨by repeat (first | (with_reducible first | exact HB.out | apply below_alloc | apply pw_below_drewN | apply below_drew1) | exact HB.out)⟩⟩
                          · rw [if_neg c46] at H
                            have c46b0 : (t235 == t246) = false := beq_eq_false_iff_ne.mpr c46
                            have c46b1 : (t235 != t246) = true := bne_iff_ne.mpr c46
                            have H' := Aside0.mk H
                            clear H
                            go_wp2
                            go_meet
                            case rel => exact ⟨_, (true), (by first | rfl | (simp; done) | (simp [*]; done)), H', ⟨by have := HJ11.out; have := HJ23.out; have := HJ25.out; have := HJ34.out; first | omega | exact Nat.le_refl _⟩, ⟨by repeat (first | (with_reducible first | exact HB.out | apply below_alloc | apply pw_below_drewN | apply below_drew1) | exact HB.out)⟩⟩
                        · rw [if_neg c45] at H
                          have c45b0 : (t234 == t245) = false := beq_eq_false_iff_ne.mpr c45
                          have c45b1 : (t234 != t245) = true := bne_iff_ne.mpr c45
                          (first | rw [c45b0] | (simp only [i64_w, i32_w]; rw [c45b0]) | skip)
                          have H' := Aside0.mk H
                          clear H
                          go_wp2
                          go_meet
                          case rel => exact ⟨_, (true), (by first | rfl | (simp; done) | (simp [*]; done)), H', ⟨by have := HJ11.out; have := HJ23.out; have := HJ25.out; have := HJ34.out; first | omega | exact Nat.le_refl _⟩, ⟨by repeat (first | (with_reducible first | exact HB.out | apply below_alloc | apply pw_below_drewN | apply below_drew1) | exact HB.out)⟩⟩
                      case rest =>
                        clear HC44
                        try clear c1
                        try clear c2
                        try clear p2
                        try clear c3
                        try clear c4
                        try clear c7
                        try clear c10
                        try clear c17
                        try clear c18
                        try clear c18b0
                        try clear c18b1
                        try clear c20
                        try clear c20b0
                        try clear c20b1
                        try clear c22
                        try clear c22b0
                        try clear c22b1
                        try clear c23
                        try clear c23b0
                        try clear c23b1
                        try clear c24
                        try clear c25
                        try clear c25b0
                        try clear c26
                        try clear c27
                        try clear c28
                        try clear c28b0
                        try clear c28b1
                        try clear c29
                        try clear c29b0
                        try clear c29b1
                        try clear c30
                        try clear c30b0
                        try clear c30b1
                        try clear c32
                        try clear c33
                        try clear c33b0
                        try clear c33b1
                        try clear c36
                        try clear c36b0
                        try clear c37
                        try clear c38
                        try clear c38b0
                        try clear c38b1
                        try clear c39
                        try clear c39b0
                        try clear c39b1
                        try clear c40
                        try clear c40b0
                        try clear c40b1
                        try clear c41
                        try clear c41b0
                        try clear c41b1
                        try clear c42
                        try clear c42b0
                        try clear c42b1
                        try clear c45
                        try clear c45b0
                        try clear c45b1
                        try clear c46
                        try clear c46b0
                        try clear c46b1
                        try clear c47
                        try clear c47b0
                        try clear c47b1
                        try clear p2
                        obtain ⟨kq, x140_43, rfl, HA, HJ43, HB⟩ := hcut
                        cases kq with
                        | zero => exact absurd HA.out (by simp [plaitlaw03_VarintTells.j4])
                        | succ kj43 =>
                          have H := HA.out
                          clear HA
                          simp only [plaitlaw03_VarintTells.j4] at H
                          by_cases c48 : x140_43 = true
                          · subst c48
                            have H1 : (some false) = some r := by rw [if_pos rfl] at H; exact H
                            clear H
                            have H := H1
                            clear H1
                            exact absurd (Option.some.inj H) (by rw [hr_.out]; decide)
                          · replace c48 := Bool.eq_false_iff.mpr c48
                            subst c48
                            have H1 : (if t247 = 0 then ((plaitref03_Unfold.f t245).bind fun t248 => (if t237 = t248 then (some (t238 == t246)) else (some false))) else (if t237 = 0 then (some (t238 == 0)) else (some false))) = some r := by rw [if_neg (show ¬ (false = true) by decide)] at H; exact H
                            clear H
                            have H := H1
                            clear H1
                            by_cases c49 : t247 = 0
                            · rw [if_pos c49] at H
                              have c49b0 : (t247 == 0) = true := beq_iff_eq.mpr c49
                              have c49b1 : (t247 != 0) = false := bne_eq_false_iff_eq.mpr c49
                              clear c49
                              replace H := Option.bind_eq_some_iff.mp H
                              obtain ⟨t248, A500, H⟩ := H
                              replace H : (if t237 = t248 then (some (t238 == t246)) else (some false)) = some r := H
                              have A50 := Aside0.mk A500
                              clear A500
                              by_cases c51 : t237 = t248
                              · rw [if_pos c51] at H
                                have c51b0 : (t237 == t248) = true := beq_iff_eq.mpr c51
                                have c51b1 : (t237 != t248) = false := bne_eq_false_iff_eq.mpr c51
                                clear c51
                                obtain rfl := Option.some.inj H
                                go_wp2_with (first | ((with_reducible refine gate_callee (f := 33) rfl ?_); refine goesL_ (some 151) rfl rfl Try.func33 (by kernel_rfl) rfl #[.int .i64 t245] rfl (by (try simp only [List.map_toArray, List.map_cons, List.map_nil]); first | done | rfl | (simp only [List.length_drop, List.length_take]; rfl)) ?_; (with_reducible refine (plaitref03_Unfold.calls t245 t248 _ A50.out).mono ?_); rintro e w' ⟨rfl, ⟨nd, rfl⟩⟩; refine ⟨_, rfl, ?_⟩))
                                go_ret
                                exact ⟨by first | rfl | (simp [errW_none, errW_some] <;> rfl) | (simp [*, errW_none, errW_some] <;> rfl), by repeat (first | (with_reducible first | exact HB.out | apply below_alloc | apply pw_below_drewN | apply below_drew1) | exact HB.out)⟩
                              · rw [if_neg c51] at H
                                have c51b0 : (t237 == t248) = false := beq_eq_false_iff_ne.mpr c51
                                have c51b1 : (t237 != t248) = true := bne_iff_ne.mpr c51
                                exact absurd (Option.some.inj H) (by rw [hr_.out]; decide)
                            · rw [if_neg c49] at H
                              have c49b0 : (t247 == 0) = false := beq_eq_false_iff_ne.mpr c49
                              have c49b1 : (t247 != 0) = true := bne_iff_ne.mpr c49
                              by_cases c52 : t237 = 0
                              · rw [if_pos c52] at H
                                have c52b0 : (t237 == 0) = true := beq_iff_eq.mpr c52
                                have c52b1 : (t237 != 0) = false := bne_eq_false_iff_eq.mpr c52
                                clear c52
                                obtain rfl := Option.some.inj H
                                go_wp2
                                go_ret
                                exact ⟨by first | rfl | (simp [errW_none, errW_some] <;> rfl) | (simp [*, errW_none, errW_some] <;> rfl), by repeat (first | (with_reducible first | exact HB.out | apply below_alloc | apply pw_below_drewN | apply below_drew1) | exact HB.out)⟩
                              · rw [if_neg c52] at H
                                have c52b0 : (t237 == 0) = false := beq_eq_false_iff_ne.mpr c52
                                have c52b1 : (t237 != 0) = true := bne_iff_ne.mpr c52
                                exact absurd (Option.some.inj H) (by rw [hr_.out]; decide)
  · replace c10 := Bool.eq_false_iff.mpr c10
    subst c10
    have H1 : (some false) = some r := by rw [if_neg (show ¬ (false = true) by decide)] at H; exact H
    clear H
    have H := H1
    clear H1
    exact absurd (Option.some.inj H) (by rw [hr_.out]; decide)

/-- THE ONE PURE STATEMENT of plaitlaw03_VarintTells: yours. -/
def plaitlaw03_VarintTells.Pure : Prop := ∀ (a0 : Int) (a1 : ByteArray) (a2 : Int), (Lit.int .i64 a0).wf = true → a1.size ≤ 140737488351232 → (Lit.int .i64 a2).wf = true → ∃ k, plaitlaw03_VarintTells.f k a0 a1 a2 = some true
theorem plaitlaw03_VarintTells.walk (P : plaitlaw03_VarintTells.Pure) (a0 : Int) (a1 : ByteArray) (a2 : Int) (w : World) (w0 : (Lit.int .i64 a0).wf = true) (w1 : a1.size ≤ 140737488351232) (w2 : (Lit.int .i64 a2).wf = true) :
    Calls Try.prog 7 #[.int .i64 a0, .string a1, .int .i64 a2] w fun e w' => e = .returned (.bool true) ∧ Below w.heap.size w w' := by
  obtain ⟨k, h⟩ := P a0 a1 a2 w0 w1 w2
  refine (plaitlaw03_VarintTells.calls k a0 a1 a2 true w h ⟨rfl⟩).mono ?_
  rintro e w' ⟨rfl, hd⟩
  exact ⟨rfl, hd⟩

end Go.Proofs.Ytipmoncamnafbaa.X
