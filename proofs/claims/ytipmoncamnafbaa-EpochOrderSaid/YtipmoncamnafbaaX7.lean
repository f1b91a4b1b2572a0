/- Contracts of functions, and walks of laws, written by this session's own program (wip/tools/xprint.py, a driver round the kit's print) out of Lean's print of the loaded program. Lean checks them. -/
import Derived.Test.YtipmoncamnafbaaX0
import Derived.Test.YtipmoncamnafbaaX1
import Derived.Test.YtipmoncamnafbaaGiven
namespace Go.Proofs.Ytipmoncamnafbaa.X
open Go.RowKit Go.Proofs.YtipmoncamnafbaaW.PrintWords Go.Proofs.YtipmoncamnafbaaW.PrintLast Go.Proofs.YtipmoncamnafbaaW.PrintMore
attribute [local go_sem] max2_int min2_int max_two min_two max_three min_three max_four min_four   -- for this text's walks alone
set_option linter.unusedVariables false
set_option linter.unusedSimpArgs false

/-! ### plaitlaw02_EpochOrder: function 5 -/
def plaitlaw02_EpochOrder.j0 : Nat → Int → Int → Int → Int → Int → Int → ByteArray → ByteArray → Bool → Option (Bool)
  | 0, _, _, _, _, _, _, _, _, _ => none
  | k + 1, x0, x1, x2, x3, x9, x11, x13, x15, x82 => if x82 = true then (some false) else (if ((decide (x9 < x11)) != (Op.bytesLess x13.toList x15.toList)) = true then (some false) else (if x0 = x1 then (if ((x9 == x11) != (x2 == x3)) = true then (some false) else (if x2 = x3 then (some ((decide (x9 < x11)) == (decide (x0 < x1)))) else (some true))) else (if ((x9 == x11) != false) = true then (some false) else (if x2 = x3 then (some ((decide (x9 < x11)) == (decide (x0 < x1)))) else (some true)))))
def plaitlaw02_EpochOrder.f (k : Nat) (a0 : Int) (a1 : Int) (a2 : Int) (a3 : Int) : Option (Bool) := (epoch_Pack.f k (wrap64 (Int.tmod (IntKind.u64.wrap (a0)) 1099511627776)) (Int.tmod (wrap64 ((Int.tmod a2 16) + 16)) 16)).bind fun bt201 => ((epoch_Pack.f k (wrap64 (Int.tmod (IntKind.u64.wrap (a1)) 1099511627776)) (Int.tmod (wrap64 ((Int.tmod a3 16) + 16)) 16)).bind fun bt203 => ((epoch_Bytes.f bt201.1).bind fun bt205 => ((epoch_Bytes.f bt203.1).bind fun bt207 => (if bt201.2 = 0 then (if bt203.2 = 0 then (if bt205.2 = 0 then (if bt207.2 = 0 then (if (bt205.1.size : Int) = 8 then (if (bt207.1.size : Int) = 8 then ((plaitlaw02_alive.f k).bind fun t209 => (plaitlaw02_EpochOrder.j0 k (wrap64 (Int.tmod (IntKind.u64.wrap (a0)) 1099511627776)) (wrap64 (Int.tmod (IntKind.u64.wrap (a1)) 1099511627776)) (Int.tmod (wrap64 ((Int.tmod a2 16) + 16)) 16) (Int.tmod (wrap64 ((Int.tmod a3 16) + 16)) 16) bt201.1 bt203.1 bt205.1 bt207.1 (!t209))) else (plaitlaw02_EpochOrder.j0 k (wrap64 (Int.tmod (IntKind.u64.wrap (a0)) 1099511627776)) (wrap64 (Int.tmod (IntKind.u64.wrap (a1)) 1099511627776)) (Int.tmod (wrap64 ((Int.tmod a2 16) + 16)) 16) (Int.tmod (wrap64 ((Int.tmod a3 16) + 16)) 16) bt201.1 bt203.1 bt205.1 bt207.1 true)) else (plaitlaw02_EpochOrder.j0 k (wrap64 (Int.tmod (IntKind.u64.wrap (a0)) 1099511627776)) (wrap64 (Int.tmod (IntKind.u64.wrap (a1)) 1099511627776)) (Int.tmod (wrap64 ((Int.tmod a2 16) + 16)) 16) (Int.tmod (wrap64 ((Int.tmod a3 16) + 16)) 16) bt201.1 bt203.1 bt205.1 bt207.1 true)) else (plaitlaw02_EpochOrder.j0 k (wrap64 (Int.tmod (IntKind.u64.wrap (a0)) 1099511627776)) (wrap64 (Int.tmod (IntKind.u64.wrap (a1)) 1099511627776)) (Int.tmod (wrap64 ((Int.tmod a2 16) + 16)) 16) (Int.tmod (wrap64 ((Int.tmod a3 16) + 16)) 16) bt201.1 bt203.1 bt205.1 bt207.1 true)) else (plaitlaw02_EpochOrder.j0 k (wrap64 (Int.tmod (IntKind.u64.wrap (a0)) 1099511627776)) (wrap64 (Int.tmod (IntKind.u64.wrap (a1)) 1099511627776)) (Int.tmod (wrap64 ((Int.tmod a2 16) + 16)) 16) (Int.tmod (wrap64 ((Int.tmod a3 16) + 16)) 16) bt201.1 bt203.1 bt205.1 bt207.1 true)) else (plaitlaw02_EpochOrder.j0 k (wrap64 (Int.tmod (IntKind.u64.wrap (a0)) 1099511627776)) (wrap64 (Int.tmod (IntKind.u64.wrap (a1)) 1099511627776)) (Int.tmod (wrap64 ((Int.tmod a2 16) + 16)) 16) (Int.tmod (wrap64 ((Int.tmod a3 16) + 16)) 16) bt201.1 bt203.1 bt205.1 bt207.1 true)) else (plaitlaw02_EpochOrder.j0 k (wrap64 (Int.tmod (IntKind.u64.wrap (a0)) 1099511627776)) (wrap64 (Int.tmod (IntKind.u64.wrap (a1)) 1099511627776)) (Int.tmod (wrap64 ((Int.tmod a2 16) + 16)) 16) (Int.tmod (wrap64 ((Int.tmod a3 16) + 16)) 16) bt201.1 bt203.1 bt205.1 bt207.1 true)))))
theorem plaitlaw02_EpochOrder.mono_l : ∀ k, (∀ y0 y1 y2 y3 y4 y5 y6 y7 y8, LeO (plaitlaw02_EpochOrder.j0 k y0 y1 y2 y3 y4 y5 y6 y7 y8) (plaitlaw02_EpochOrder.j0 (k + 1) y0 y1 y2 y3 y4 y5 y6 y7 y8))
  | 0 => fun _ _ _ _ _ _ _ _ _ r h => by simp [plaitlaw02_EpochOrder.j0] at h
  | k + 1 => by
    have ih0 := plaitlaw02_EpochOrder.mono_l k
    · intro y0 y1 y2 y3 y4 y5 y6 y7 y8
      unfold plaitlaw02_EpochOrder.j0
      repeat' first
      | (with_reducible exact ih0 _ _ _ _ _ _ _ _ _)
      | (with_reducible exact epoch_Pack.mono _ _ _)
      | (with_reducible exact plaitlaw02_alive.mono _)
      | (with_reducible exact LeO.refl _)
      | (with_reducible exact LeO.none _)
      | (with_reducible refine LeO.ite ?_ ?_)
      | (with_reducible refine LeO.bind ?_ (fun _ => ?_))
      | exact ih0 _ _ _ _ _ _ _ _ _
      | exact epoch_Pack.mono _ _ _
      | exact plaitlaw02_alive.mono _
      | exact LeO.none _
      | refine LeO.ite ?_ ?_
      | refine LeO.bind ?_ (fun _ => ?_)
theorem plaitlaw02_EpochOrder.mono : ∀ a0 a1 a2 a3 k, LeO (plaitlaw02_EpochOrder.f k a0 a1 a2 a3) (plaitlaw02_EpochOrder.f (k + 1) a0 a1 a2 a3) := by
  intro a0 a1 a2 a3 k
  have ih0 := plaitlaw02_EpochOrder.mono_l k
  unfold plaitlaw02_EpochOrder.f
  repeat' first
      | (with_reducible exact ih0 _ _ _ _ _ _ _ _ _)
      | (with_reducible exact epoch_Pack.mono _ _ _)
      | (with_reducible exact plaitlaw02_alive.mono _)
      | (with_reducible exact LeO.refl _)
      | (with_reducible exact LeO.none _)
      | (with_reducible refine LeO.ite ?_ ?_)
      | (with_reducible refine LeO.bind ?_ (fun _ => ?_))
      | exact ih0 _ _ _ _ _ _ _ _ _
      | exact epoch_Pack.mono _ _ _
      | exact plaitlaw02_alive.mono _
      | exact LeO.none _
      | refine LeO.ite ?_ ?_
      | refine LeO.bind ?_ (fun _ => ?_)
set_option maxHeartbeats 8000000 in
set_option maxRecDepth 100000 in
theorem plaitlaw02_EpochOrder.calls (k : Nat) (a0 : Int) (a1 : Int) (a2 : Int) (a3 : Int) (r : Bool) (w : World) (h : plaitlaw02_EpochOrder.f k a0 a1 a2 a3 = some r) (hr_ : Aside0 (r = true)) :
    Calls Try.prog 5 #[.int .i64 a0, .int .i64 a1, .int .i64 a2, .int .i64 a3] w fun e w' => e = .returned (.bool r) ∧ Below w.heap.size w w' := by
  have HB := Aside0.mk (Below.refl w.heap.size w)
  have H : ((epoch_Pack.f k (wrap64 (Int.tmod (IntKind.u64.wrap (a0)) 1099511627776)) (Int.tmod (wrap64 ((Int.tmod a2 16) + 16)) 16)).bind fun bt201 => ((epoch_Pack.f k (wrap64 (Int.tmod (IntKind.u64.wrap (a1)) 1099511627776)) (Int.tmod (wrap64 ((Int.tmod a3 16) + 16)) 16)).bind fun bt203 => ((epoch_Bytes.f bt201.1).bind fun bt205 => ((epoch_Bytes.f bt203.1).bind fun bt207 => (if bt201.2 = 0 then (if bt203.2 = 0 then (if bt205.2 = 0 then (if bt207.2 = 0 then (if (bt205.1.size : Int) = 8 then (if (bt207.1.size : Int) = 8 then ((plaitlaw02_alive.f k).bind fun t209 => (plaitlaw02_EpochOrder.j0 k (wrap64 (Int.tmod (IntKind.u64.wrap (a0)) 1099511627776)) (wrap64 (Int.tmod (IntKind.u64.wrap (a1)) 1099511627776)) (Int.tmod (wrap64 ((Int.tmod a2 16) + 16)) 16) (Int.tmod (wrap64 ((Int.tmod a3 16) + 16)) 16) bt201.1 bt203.1 bt205.1 bt207.1 (!t209))) else (plaitlaw02_EpochOrder.j0 k (wrap64 (Int.tmod (IntKind.u64.wrap (a0)) 1099511627776)) (wrap64 (Int.tmod (IntKind.u64.wrap (a1)) 1099511627776)) (Int.tmod (wrap64 ((Int.tmod a2 16) + 16)) 16) (Int.tmod (wrap64 ((Int.tmod a3 16) + 16)) 16) bt201.1 bt203.1 bt205.1 bt207.1 true)) else (plaitlaw02_EpochOrder.j0 k (wrap64 (Int.tmod (IntKind.u64.wrap (a0)) 1099511627776)) (wrap64 (Int.tmod (IntKind.u64.wrap (a1)) 1099511627776)) (Int.tmod (wrap64 ((Int.tmod a2 16) + 16)) 16) (Int.tmod (wrap64 ((Int.tmod a3 16) + 16)) 16) bt201.1 bt203.1 bt205.1 bt207.1 true)) else (plaitlaw02_EpochOrder.j0 k (wrap64 (Int.tmod (IntKind.u64.wrap (a0)) 1099511627776)) (wrap64 (Int.tmod (IntKind.u64.wrap (a1)) 1099511627776)) (Int.tmod (wrap64 ((Int.tmod a2 16) + 16)) 16) (Int.tmod (wrap64 ((Int.tmod a3 16) + 16)) 16) bt201.1 bt203.1 bt205.1 bt207.1 true)) else (plaitlaw02_EpochOrder.j0 k (wrap64 (Int.tmod (IntKind.u64.wrap (a0)) 1099511627776)) (wrap64 (Int.tmod (IntKind.u64.wrap (a1)) 1099511627776)) (Int.tmod (wrap64 ((Int.tmod a2 16) + 16)) 16) (Int.tmod (wrap64 ((Int.tmod a3 16) + 16)) 16) bt201.1 bt203.1 bt205.1 bt207.1 true)) else (plaitlaw02_EpochOrder.j0 k (wrap64 (Int.tmod (IntKind.u64.wrap (a0)) 1099511627776)) (wrap64 (Int.tmod (IntKind.u64.wrap (a1)) 1099511627776)) (Int.tmod (wrap64 ((Int.tmod a2 16) + 16)) 16) (Int.tmod (wrap64 ((Int.tmod a3 16) + 16)) 16) bt201.1 bt203.1 bt205.1 bt207.1 true)) else (plaitlaw02_EpochOrder.j0 k (wrap64 (Int.tmod (IntKind.u64.wrap (a0)) 1099511627776)) (wrap64 (Int.tmod (IntKind.u64.wrap (a1)) 1099511627776)) (Int.tmod (wrap64 ((Int.tmod a2 16) + 16)) 16) (Int.tmod (wrap64 ((Int.tmod a3 16) + 16)) 16) bt201.1 bt203.1 bt205.1 bt207.1 true)))))) = some r := h
  clear h
  replace H := Option.bind_eq_some_iff.mp H
  obtain ⟨⟨t201, t202⟩, A50, H⟩ := H
  replace H : ((epoch_Pack.f k (wrap64 (Int.tmod (IntKind.u64.wrap (a1)) 1099511627776)) (Int.tmod (wrap64 ((Int.tmod a3 16) + 16)) 16)).bind fun bt203 => ((epoch_Bytes.f t201).bind fun bt205 => ((epoch_Bytes.f bt203.1).bind fun bt207 => (if t202 = 0 then (if bt203.2 = 0 then (if bt205.2 = 0 then (if bt207.2 = 0 then (if (bt205.1.size : Int) = 8 then (if (bt207.1.size : Int) = 8 then ((plaitlaw02_alive.f k).bind fun t209 => (plaitlaw02_EpochOrder.j0 k (wrap64 (Int.tmod (IntKind.u64.wrap (a0)) 1099511627776)) (wrap64 (Int.tmod (IntKind.u64.wrap (a1)) 1099511627776)) (Int.tmod (wrap64 ((Int.tmod a2 16) + 16)) 16) (Int.tmod (wrap64 ((Int.tmod a3 16) + 16)) 16) t201 bt203.1 bt205.1 bt207.1 (!t209))) else (plaitlaw02_EpochOrder.j0 k (wrap64 (Int.tmod (IntKind.u64.wrap (a0)) 1099511627776)) (wrap64 (Int.tmod (IntKind.u64.wrap (a1)) 1099511627776)) (Int.tmod (wrap64 ((Int.tmod a2 16) + 16)) 16) (Int.tmod (wrap64 ((Int.tmod a3 16) + 16)) 16) t201 bt203.1 bt205.1 bt207.1 true)) else (plaitlaw02_EpochOrder.j0 k (wrap64 (Int.tmod (IntKind.u64.wrap (a0)) 1099511627776)) (wrap64 (Int.tmod (IntKind.u64.wrap (a1)) 1099511627776)) (Int.tmod (wrap64 ((Int.tmod a2 16) + 16)) 16) (Int.tmod (wrap64 ((Int.tmod a3 16) + 16)) 16) t201 bt203.1 bt205.1 bt207.1 true)) else (plaitlaw02_EpochOrder.j0 k (wrap64 (Int.tmod (IntKind.u64.wrap (a0)) 1099511627776)) (wrap64 (Int.tmod (IntKind.u64.wrap (a1)) 1099511627776)) (Int.tmod (wrap64 ((Int.tmod a2 16) + 16)) 16) (Int.tmod (wrap64 ((Int.tmod a3 16) + 16)) 16) t201 bt203.1 bt205.1 bt207.1 true)) else (plaitlaw02_EpochOrder.j0 k (wrap64 (Int.tmod (IntKind.u64.wrap (a0)) 1099511627776)) (wrap64 (Int.tmod (IntKind.u64.wrap (a1)) 1099511627776)) (Int.tmod (wrap64 ((Int.tmod a2 16) + 16)) 16) (Int.tmod (wrap64 ((Int.tmod a3 16) + 16)) 16) t201 bt203.1 bt205.1 bt207.1 true)) else (plaitlaw02_EpochOrder.j0 k (wrap64 (Int.tmod (IntKind.u64.wrap (a0)) 1099511627776)) (wrap64 (Int.tmod (IntKind.u64.wrap (a1)) 1099511627776)) (Int.tmod (wrap64 ((Int.tmod a2 16) + 16)) 16) (Int.tmod (wrap64 ((Int.tmod a3 16) + 16)) 16) t201 bt203.1 bt205.1 bt207.1 true)) else (plaitlaw02_EpochOrder.j0 k (wrap64 (Int.tmod (IntKind.u64.wrap (a0)) 1099511627776)) (wrap64 (Int.tmod (IntKind.u64.wrap (a1)) 1099511627776)) (Int.tmod (wrap64 ((Int.tmod a2 16) + 16)) 16) (Int.tmod (wrap64 ((Int.tmod a3 16) + 16)) 16) t201 bt203.1 bt205.1 bt207.1 true))))) = some r := H
  have A5 := Aside0.mk A50
  clear A50
  replace H := Option.bind_eq_some_iff.mp H
  obtain ⟨⟨t203, t204⟩, A60, H⟩ := H
  replace H : ((epoch_Bytes.f t201).bind fun bt205 => ((epoch_Bytes.f t203).bind fun bt207 => (if t202 = 0 then (if t204 = 0 then (if bt205.2 = 0 then (if bt207.2 = 0 then (if (bt205.1.size : Int) = 8 then (if (bt207.1.size : Int) = 8 then ((plaitlaw02_alive.f k).bind fun t209 => (plaitlaw02_EpochOrder.j0 k (wrap64 (Int.tmod (IntKind.u64.wrap (a0)) 1099511627776)) (wrap64 (Int.tmod (IntKind.u64.wrap (a1)) 1099511627776)) (Int.tmod (wrap64 ((Int.tmod a2 16) + 16)) 16) (Int.tmod (wrap64 ((Int.tmod a3 16) + 16)) 16) t201 t203 bt205.1 bt207.1 (!t209))) else (plaitlaw02_EpochOrder.j0 k (wrap64 (Int.tmod (IntKind.u64.wrap (a0)) 1099511627776)) (wrap64 (Int.tmod (IntKind.u64.wrap (a1)) 1099511627776)) (Int.tmod (wrap64 ((Int.tmod a2 16) + 16)) 16) (Int.tmod (wrap64 ((Int.tmod a3 16) + 16)) 16) t201 t203 bt205.1 bt207.1 true)) else (plaitlaw02_EpochOrder.j0 k (wrap64 (Int.tmod (IntKind.u64.wrap (a0)) 1099511627776)) (wrap64 (Int.tmod (IntKind.u64.wrap (a1)) 1099511627776)) (Int.tmod (wrap64 ((Int.tmod a2 16) + 16)) 16) (Int.tmod (wrap64 ((Int.tmod a3 16) + 16)) 16) t201 t203 bt205.1 bt207.1 true)) else (plaitlaw02_EpochOrder.j0 k (wrap64 (Int.tmod (IntKind.u64.wrap (a0)) 1099511627776)) (wrap64 (Int.tmod (IntKind.u64.wrap (a1)) 1099511627776)) (Int.tmod (wrap64 ((Int.tmod a2 16) + 16)) 16) (Int.tmod (wrap64 ((Int.tmod a3 16) + 16)) 16) t201 t203 bt205.1 bt207.1 true)) else (plaitlaw02_EpochOrder.j0 k (wrap64 (Int.tmod (IntKind.u64.wrap (a0)) 1099511627776)) (wrap64 (Int.tmod (IntKind.u64.wrap (a1)) 1099511627776)) (Int.tmod (wrap64 ((Int.tmod a2 16) + 16)) 16) (Int.tmod (wrap64 ((Int.tmod a3 16) + 16)) 16) t201 t203 bt205.1 bt207.1 true)) else (plaitlaw02_EpochOrder.j0 k (wrap64 (Int.tmod (IntKind.u64.wrap (a0)) 1099511627776)) (wrap64 (Int.tmod (IntKind.u64.wrap (a1)) 1099511627776)) (Int.tmod (wrap64 ((Int.tmod a2 16) + 16)) 16) (Int.tmod (wrap64 ((Int.tmod a3 16) + 16)) 16) t201 t203 bt205.1 bt207.1 true)) else (plaitlaw02_EpochOrder.j0 k (wrap64 (Int.tmod (IntKind.u64.wrap (a0)) 1099511627776)) (wrap64 (Int.tmod (IntKind.u64.wrap (a1)) 1099511627776)) (Int.tmod (wrap64 ((Int.tmod a2 16) + 16)) 16) (Int.tmod (wrap64 ((Int.tmod a3 16) + 16)) 16) t201 t203 bt205.1 bt207.1 true)))) = some r := H
  have A6 := Aside0.mk A60
  clear A60
  replace H := Option.bind_eq_some_iff.mp H
  obtain ⟨⟨t205, t206⟩, A70, H⟩ := H
  replace H : ((epoch_Bytes.f t203).bind fun bt207 => (if t202 = 0 then (if t204 = 0 then (if t206 = 0 then (if bt207.2 = 0 then (if (t205.size : Int) = 8 then (if (bt207.1.size : Int) = 8 then ((plaitlaw02_alive.f k).bind fun t209 => (plaitlaw02_EpochOrder.j0 k (wrap64 (Int.tmod (IntKind.u64.wrap (a0)) 1099511627776)) (wrap64 (Int.tmod (IntKind.u64.wrap (a1)) 1099511627776)) (Int.tmod (wrap64 ((Int.tmod a2 16) + 16)) 16) (Int.tmod (wrap64 ((Int.tmod a3 16) + 16)) 16) t201 t203 t205 bt207.1 (!t209))) else (plaitlaw02_EpochOrder.j0 k (wrap64 (Int.tmod (IntKind.u64.wrap (a0)) 1099511627776)) (wrap64 (Int.tmod (IntKind.u64.wrap (a1)) 1099511627776)) (Int.tmod (wrap64 ((Int.tmod a2 16) + 16)) 16) (Int.tmod (wrap64 ((Int.tmod a3 16) + 16)) 16) t201 t203 t205 bt207.1 true)) else (plaitlaw02_EpochOrder.j0 k (wrap64 (Int.tmod (IntKind.u64.wrap (a0)) 1099511627776)) (wrap64 (Int.tmod (IntKind.u64.wrap (a1)) 1099511627776)) (Int.tmod (wrap64 ((Int.tmod a2 16) + 16)) 16) (Int.tmod (wrap64 ((Int.tmod a3 16) + 16)) 16) t201 t203 t205 bt207.1 true)) else (plaitlaw02_EpochOrder.j0 k (wrap64 (Int.tmod (IntKind.u64.wrap (a0)) 1099511627776)) (wrap64 (Int.tmod (IntKind.u64.wrap (a1)) 1099511627776)) (Int.tmod (wrap64 ((Int.tmod a2 16) + 16)) 16) (Int.tmod (wrap64 ((Int.tmod a3 16) + 16)) 16) t201 t203 t205 bt207.1 true)) else (plaitlaw02_EpochOrder.j0 k (wrap64 (Int.tmod (IntKind.u64.wrap (a0)) 1099511627776)) (wrap64 (Int.tmod (IntKind.u64.wrap (a1)) 1099511627776)) (Int.tmod (wrap64 ((Int.tmod a2 16) + 16)) 16) (Int.tmod (wrap64 ((Int.tmod a3 16) + 16)) 16) t201 t203 t205 bt207.1 true)) else (plaitlaw02_EpochOrder.j0 k (wrap64 (Int.tmod (IntKind.u64.wrap (a0)) 1099511627776)) (wrap64 (Int.tmod (IntKind.u64.wrap (a1)) 1099511627776)) (Int.tmod (wrap64 ((Int.tmod a2 16) + 16)) 16) (Int.tmod (wrap64 ((Int.tmod a3 16) + 16)) 16) t201 t203 t205 bt207.1 true)) else (plaitlaw02_EpochOrder.j0 k (wrap64 (Int.tmod (IntKind.u64.wrap (a0)) 1099511627776)) (wrap64 (Int.tmod (IntKind.u64.wrap (a1)) 1099511627776)) (Int.tmod (wrap64 ((Int.tmod a2 16) + 16)) 16) (Int.tmod (wrap64 ((Int.tmod a3 16) + 16)) 16) t201 t203 t205 bt207.1 true))) = some r := H
  have A7 := Aside0.mk A70
  clear A70
  replace H := Option.bind_eq_some_iff.mp H
  obtain ⟨⟨t207, t208⟩, A80, H⟩ := H
  replace H : (if t202 = 0 then (if t204 = 0 then (if t206 = 0 then (if t208 = 0 then (if (t205.size : Int) = 8 then (if (t207.size : Int) = 8 then ((plaitlaw02_alive.f k).bind fun t209 => (plaitlaw02_EpochOrder.j0 k (wrap64 (Int.tmod (IntKind.u64.wrap (a0)) 1099511627776)) (wrap64 (Int.tmod (IntKind.u64.wrap (a1)) 1099511627776)) (Int.tmod (wrap64 ((Int.tmod a2 16) + 16)) 16) (Int.tmod (wrap64 ((Int.tmod a3 16) + 16)) 16) t201 t203 t205 t207 (!t209))) else (plaitlaw02_EpochOrder.j0 k (wrap64 (Int.tmod (IntKind.u64.wrap (a0)) 1099511627776)) (wrap64 (Int.tmod (IntKind.u64.wrap (a1)) 1099511627776)) (Int.tmod (wrap64 ((Int.tmod a2 16) + 16)) 16) (Int.tmod (wrap64 ((Int.tmod a3 16) + 16)) 16) t201 t203 t205 t207 true)) else (plaitlaw02_EpochOrder.j0 k (wrap64 (Int.tmod (IntKind.u64.wrap (a0)) 1099511627776)) (wrap64 (Int.tmod (IntKind.u64.wrap (a1)) 1099511627776)) (Int.tmod (wrap64 ((Int.tmod a2 16) + 16)) 16) (Int.tmod (wrap64 ((Int.tmod a3 16) + 16)) 16) t201 t203 t205 t207 true)) else (plaitlaw02_EpochOrder.j0 k (wrap64 (Int.tmod (IntKind.u64.wrap (a0)) 1099511627776)) (wrap64 (Int.tmod (IntKind.u64.wrap (a1)) 1099511627776)) (Int.tmod (wrap64 ((Int.tmod a2 16) + 16)) 16) (Int.tmod (wrap64 ((Int.tmod a3 16) + 16)) 16) t201 t203 t205 t207 true)) else (plaitlaw02_EpochOrder.j0 k (wrap64 (Int.tmod (IntKind.u64.wrap (a0)) 1099511627776)) (wrap64 (Int.tmod (IntKind.u64.wrap (a1)) 1099511627776)) (Int.tmod (wrap64 ((Int.tmod a2 16) + 16)) 16) (Int.tmod (wrap64 ((Int.tmod a3 16) + 16)) 16) t201 t203 t205 t207 true)) else (plaitlaw02_EpochOrder.j0 k (wrap64 (Int.tmod (IntKind.u64.wrap (a0)) 1099511627776)) (wrap64 (Int.tmod (IntKind.u64.wrap (a1)) 1099511627776)) (Int.tmod (wrap64 ((Int.tmod a2 16) + 16)) 16) (Int.tmod (wrap64 ((Int.tmod a3 16) + 16)) 16) t201 t203 t205 t207 true)) else (plaitlaw02_EpochOrder.j0 k (wrap64 (Int.tmod (IntKind.u64.wrap (a0)) 1099511627776)) (wrap64 (Int.tmod (IntKind.u64.wrap (a1)) 1099511627776)) (Int.tmod (wrap64 ((Int.tmod a2 16) + 16)) 16) (Int.tmod (wrap64 ((Int.tmod a3 16) + 16)) 16) t201 t203 t205 t207 true)) = some r := H
  have A8 := Aside0.mk A80
  clear A80
  have HC9 := Aside0.mk H
  clear H
  go_enter Try.func5, Try.ntmps5
  go_upto_region 6 with (first | ((with_reducible refine gate_callee (f := 21) rfl ?_); refine goesL_ (some 36) rfl rfl Try.func21 (by kernel_rfl) rfl #[.int .i64 (wrap64 (Int.tmod (IntKind.u64.wrap (a0)) 1099511627776)), .int .i64 (Int.tmod (wrap64 ((Int.tmod a2 16) + 16)) 16)] rfl (by (try simp only [List.map_toArray, List.map_cons, List.map_nil]); first | done | rfl | (simp only [List.length_drop, List.length_take]; rfl)) ?_; (with_reducible refine (epoch_Pack.calls k (wrap64 (Int.tmod (IntKind.u64.wrap (a0)) 1099511627776)) (Int.tmod (wrap64 ((Int.tmod a2 16) + 16)) 16) t201 t202 _ A5.out).mono ?_); rintro e w' ⟨rfl, ⟨nd, rfl⟩⟩; refine ⟨_, rfl, ?_⟩) | ((with_reducible refine gate_callee (f := 21) rfl ?_); refine goesL_ (some 42) rfl rfl Try.func21 (by kernel_rfl) rfl #[.int .i64 (wrap64 (Int.tmod (IntKind.u64.wrap (a1)) 1099511627776)), .int .i64 (Int.tmod (wrap64 ((Int.tmod a3 16) + 16)) 16)] rfl (by (try simp only [List.map_toArray, List.map_cons, List.map_nil]); first | done | rfl | (simp only [List.length_drop, List.length_take]; rfl)) ?_; (with_reducible refine (epoch_Pack.calls k (wrap64 (Int.tmod (IntKind.u64.wrap (a1)) 1099511627776)) (Int.tmod (wrap64 ((Int.tmod a3 16) + 16)) 16) t203 t204 _ A6.out).mono ?_); rintro e w' ⟨rfl, ⟨nd, rfl⟩⟩; refine ⟨_, rfl, ?_⟩) | ((with_reducible refine gate_callee (f := 22) rfl ?_); refine goesL_ (some 47) rfl rfl Try.func22 (by kernel_rfl) rfl #[.int .i64 t201] rfl (by (try simp only [List.map_toArray, List.map_cons, List.map_nil]); first | done | rfl | (simp only [List.length_drop, List.length_take]; rfl)) ?_; (with_reducible refine (epoch_Bytes.calls t201 t205 t206 _ A7.out).mono ?_); rintro e w10 ⟨rfl, hb⟩; refine ⟨_, rfl, ?_⟩; have n0_ := Aside0.mk (below_step (by repeat (first | (with_reducible first | exact HB.out | apply below_alloc | apply pw_below_drewN | apply below_drew1) | exact HB.out)) hb); clear HB; have HB := n0_; clear n0_; (try clear hb); (try clear hb2); (try clear hk); (try clear hi)) | ((with_reducible refine gate_callee (f := 22) rfl ?_); refine goesL_ (some 52) rfl rfl Try.func22 (by kernel_rfl) rfl #[.int .i64 t203] rfl (by (try simp only [List.map_toArray, List.map_cons, List.map_nil]); first | done | rfl | (simp only [List.length_drop, List.length_take]; rfl)) ?_; (with_reducible refine (epoch_Bytes.calls t203 t207 t208 _ A8.out).mono ?_); rintro e w11 ⟨rfl, hb⟩; refine ⟨_, rfl, ?_⟩; have n0_ := Aside0.mk (below_step (by repeat (first | (with_reducible first | exact HB.out | apply below_alloc | apply pw_below_drewN | apply below_drew1) | exact HB.out)) hb); clear HB; have HB := n0_; clear n0_; (try clear hb); (try clear hb2); (try clear hk); (try clear hi)))
  (try simp only [Act.put, List.setIfInBounds_toArray, List.set_cons_zero, List.set_cons_succ])
  go_cut [82] (fun v82 wc => ∃ (kq : Nat) (x82_8 : Bool), v82 = .bool x82_8 ∧ Aside0 (plaitlaw02_EpochOrder.j0 kq (wrap64 (Int.tmod (IntKind.u64.wrap (a0)) 1099511627776)) (wrap64 (Int.tmod (IntKind.u64.wrap (a1)) 1099511627776)) (Int.tmod (wrap64 ((Int.tmod a2 16) + 16)) 16) (Int.tmod (wrap64 ((Int.tmod a3 16) + 16)) 16) t201 t203 t205 t207 x82_8 = some r) ∧ Aside0 (kq ≤ k) ∧ Aside0 (Below w.heap.size w wc))
  case first =>
    have H := HC9.out
    clear HC9
    by_cases c12 : t202 = 0
    · rw [if_pos c12] at H
      have c12b0 : (t202 == 0) = true := beq_iff_eq.mpr c12
      have c12b1 : (t202 != 0) = false := bne_eq_false_iff_eq.mpr c12
      clear c12
      (first | rw [c12b0] | (simp only [i64_w, i32_w]; rw [c12b0]) | skip)
      by_cases c13 : t204 = 0
      · rw [if_pos c13] at H
        have c13b0 : (t204 == 0) = true := beq_iff_eq.mpr c13
        have c13b1 : (t204 != 0) = false := bne_eq_false_iff_eq.mpr c13
        clear c13
        by_cases c14 : t206 = 0
        · rw [if_pos c14] at H
          have c14b0 : (t206 == 0) = true := beq_iff_eq.mpr c14
          have c14b1 : (t206 != 0) = false := bne_eq_false_iff_eq.mpr c14
          clear c14
          by_cases c15 : t208 = 0
          · rw [if_pos c15] at H
            have c15b0 : (t208 == 0) = true := beq_iff_eq.mpr c15
            have c15b1 : (t208 != 0) = false := bne_eq_false_iff_eq.mpr c15
            clear c15
            by_cases c16 : (t205.size : Int) = 8
            · rw [if_pos c16] at H
              have c16b0 : ((t205.size : Int) == 8) = true := beq_iff_eq.mpr c16
              have c16b1 : ((t205.size : Int) != 8) = false := bne_eq_false_iff_eq.mpr c16
              clear c16
              by_cases c17 : (t207.size : Int) = 8
              · rw [if_pos c17] at H
                have c17b0 : ((t207.size : Int) == 8) = true := beq_iff_eq.mpr c17
                have c17b1 : ((t207.size : Int) != 8) = false := bne_eq_false_iff_eq.mpr c17
                clear c17
                replace H := Option.bind_eq_some_iff.mp H
                obtain ⟨t209, A180, H⟩ := H
                replace H : (plaitlaw02_EpochOrder.j0 k (wrap64 (Int.tmod (IntKind.u64.wrap (a0)) 1099511627776)) (wrap64 (Int.tmod (IntKind.u64.wrap (a1)) 1099511627776)) (Int.tmod (wrap64 ((Int.tmod a2 16) + 16)) 16) (Int.tmod (wrap64 ((Int.tmod a3 16) + 16)) 16) t201 t203 t205 t207 (!t209)) = some r := H
                have A18 := Aside0.mk A180
                clear A180
                have H' := Aside0.mk H
                clear H
                go_wp2_with (first | (go_at_call 18; (with_reducible refine (plaitlaw02_alive.calls k  t209 _ A18.out).mono ?_); rintro e w' ⟨rfl, ⟨nd, rfl⟩⟩))
                go_meet
                case rel => exact ⟨_, (!t209), (by first | rfl | (simp; done) | (simp [*]; done)), H', ⟨by first | omega | exact Nat.le_refl _⟩, ⟨by repeat (first | (with_reducible first | exact HB.out | apply below_alloc | apply pw_below_drewN | apply below_drew1) | exact HB.out)⟩⟩
              · rw [if_neg c17] at H
                have c17b0 : ((t207.size : Int) == 8) = false := beq_eq_false_iff_ne.mpr c17
                have c17b1 : ((t207.size : Int) != 8) = true := bne_iff_ne.mpr c17
                have H' := Aside0.mk H
                clear H
                go_wp2
                go_meet
                case rel => exact ⟨_, (true), (by first | rfl | (simp; done) | (simp [*]; done)), H', ⟨by first | omega | exact Nat.le_refl _⟩, ⟨by repeat (first | (with_reducible first | exact HB.out | apply below_alloc | apply pw_below_drewN | apply below_drew1) | exact HB.out)⟩⟩
            · rw [if_neg c16] at H
              have c16b0 : ((t205.size : Int) == 8) = false := beq_eq_false_iff_ne.mpr c16
              have c16b1 : ((t205.size : Int) != 8) = true := bne_iff_ne.mpr c16
              have H' := Aside0.mk H
              clear H
              go_wp2
              go_meet
              case rel => exact ⟨_, (true), (by first | rfl | (simp; done) | (simp [*]; done)), H', ⟨by first | omega | exact Nat.le_refl _⟩, ⟨by repeat (first | (with_reducible first | exact HB.out | apply below_alloc | apply pw_below_drewN | apply below_drew1) | exact HB.out)⟩⟩
          · rw [if_neg c15] at H
            have c15b0 : (t208 == 0) = false := beq_eq_false_iff_ne.mpr c15
            have c15b1 : (t208 != 0) = true := bne_iff_ne.mpr c15
            have H' := Aside0.mk H
            clear H
            go_wp2
            go_meet
            case rel => exact ⟨_, (true), (by first | rfl | (simp; done) | (simp [*]; done)), H', ⟨by first | omega | exact Nat.le_refl _⟩, ⟨by repeat (first | (with_reducible first | exact HB.out | apply below_alloc | apply pw_below_drewN | apply below_drew1) | exact HB.out)⟩⟩
        · rw [if_neg c14] at H
          have c14b0 : (t206 == 0) = false := beq_eq_false_iff_ne.mpr c14
          have c14b1 : (t206 != 0) = true := bne_iff_ne.mpr c14
          have H' := Aside0.mk H
          clear H
          go_wp2
          go_meet
          case rel => exact ⟨_, (true), (by first | rfl | (simp; done) | (simp [*]; done)), H', ⟨by first | omega | exact Nat.le_refl _⟩, ⟨by repeat (first | (with_reducible first | exact HB.out | apply below_alloc | apply pw_below_drewN | apply below_drew1) | exact HB.out)⟩⟩
      · rw [if_neg c13] at H
        have c13b0 : (t204 == 0) = false := beq_eq_false_iff_ne.mpr c13
        have c13b1 : (t204 != 0) = true := bne_iff_ne.mpr c13
        have H' := Aside0.mk H
        clear H
        go_wp2
        go_meet
        case rel => exact ⟨_, (true), (by first | rfl | (simp; done) | (simp [*]; done)), H', ⟨by first | omega | exact Nat.le_refl _⟩, ⟨by repeat (first | (with_reducible first | exact HB.out | apply below_alloc | apply pw_below_drewN | apply below_drew1) | exact HB.out)⟩⟩
    · rw [if_neg c12] at H
      have c12b0 : (t202 == 0) = false := beq_eq_false_iff_ne.mpr c12
      have c12b1 : (t202 != 0) = true := bne_iff_ne.mpr c12
      (first | rw [c12b0] | (simp only [i64_w, i32_w]; rw [c12b0]) | skip)
      have H' := Aside0.mk H
      clear H
      go_wp2
      go_meet
      case rel => exact ⟨_, (true), (by first | rfl | (simp; done) | (simp [*]; done)), H', ⟨by first | omega | exact Nat.le_refl _⟩, ⟨by repeat (first | (with_reducible first | exact HB.out | apply below_alloc | apply pw_below_drewN | apply below_drew1) | exact HB.out)⟩⟩
  case rest =>
    clear HC9
    try clear c1
    try clear c2
    try clear p2
    try clear c5
    try clear p6
    try clear c12
    try clear c12b0
    try clear c12b1
    try clear c13
    try clear c13b0
    try clear c13b1
    try clear c14
    try clear c14b0
    try clear c14b1
    try clear c15
    try clear c15b0
    try clear c15b1
    try clear c16
    try clear c16b0
    try clear c16b1
    try clear c17
    try clear c17b0
    try clear c17b1
    obtain ⟨kq, x82_8, rfl, HA, HJ8, HB⟩ := hcut
    cases kq with
    | zero => exact absurd HA.out (by simp [plaitlaw02_EpochOrder.j0])
    | succ kj8 =>
      have H := HA.out
      clear HA
      simp only [plaitlaw02_EpochOrder.j0] at H
      by_cases c19 : x82_8 = true
      · subst c19
        have H1 : (some false) = some r := by rw [if_pos rfl] at H; exact H
        clear H
        have H := H1
        clear H1
        exact absurd (Option.some.inj H) (by rw [hr_.out]; decide)
      · replace c19 := Bool.eq_false_iff.mpr c19
        subst c19
        have H1 : (if ((decide (t201 < t203)) != (Op.bytesLess t205.toList t207.toList)) = true then (some false) else (if (wrap64 (Int.tmod (IntKind.u64.wrap (a0)) 1099511627776)) = (wrap64 (Int.tmod (IntKind.u64.wrap (a1)) 1099511627776)) then (if ((t201 == t203) != ((Int.tmod (wrap64 ((Int.tmod a2 16) + 16)) 16) == (Int.tmod (wrap64 ((Int.tmod a3 16) + 16)) 16))) = true then (some false) else (if (Int.tmod (wrap64 ((Int.tmod a2 16) + 16)) 16) = (Int.tmod (wrap64 ((Int.tmod a3 16) + 16)) 16) then (some ((decide (t201 < t203)) == (decide ((wrap64 (Int.tmod (IntKind.u64.wrap (a0)) 1099511627776)) < (wrap64 (Int.tmod (IntKind.u64.wrap (a1)) 1099511627776)))))) else (some true))) else (if ((t201 == t203) != false) = true then (some false) else (if (Int.tmod (wrap64 ((Int.tmod a2 16) + 16)) 16) = (Int.tmod (wrap64 ((Int.tmod a3 16) + 16)) 16) then (some ((decide (t201 < t203)) == (decide ((wrap64 (Int.tmod (IntKind.u64.wrap (a0)) 1099511627776)) < (wrap64 (Int.tmod (IntKind.u64.wrap (a1)) 1099511627776)))))) else (some true))))) = some r := by rw [if_neg (show ¬ (false = true) by decide)] at H; exact H
        clear H
        have H := H1
        clear H1
        by_cases c20 : ((decide (t201 < t203)) != (Op.bytesLess t205.toList t207.toList)) = true
        · rw [if_pos c20] at H
          have c20b0 : ((decide (t201 < t203)) != (Op.bytesLess t205.toList t207.toList)) = true := c20
          (try (have c20b1 : decide ((decide (t201 < t203)) = (Op.bytesLess t205.toList t207.toList)) = false := by simpa using c20))
          (try (have c20b2 : ((decide (t201 < t203)) == (Op.bytesLess t205.toList t207.toList)) = false := by simpa using c20))
          (try (have c20b3 : ¬ ((decide (t201 < t203)) = (Op.bytesLess t205.toList t207.toList)) := by simpa using c20))
          clear c20
          exact absurd (Option.some.inj H) (by rw [hr_.out]; decide)
        · rw [if_neg c20] at H
          have c20b0 : ((decide (t201 < t203)) != (Op.bytesLess t205.toList t207.toList)) = false := by simpa using c20
          (try (have c20b1 : decide ((decide (t201 < t203)) = (Op.bytesLess t205.toList t207.toList)) = true := by simpa using c20))
          (try (have c20b2 : ((decide (t201 < t203)) == (Op.bytesLess t205.toList t207.toList)) = true := by simpa using c20))
          clear c20
          by_cases c21 : (wrap64 (Int.tmod (IntKind.u64.wrap (a0)) 1099511627776)) = (wrap64 (Int.tmod (IntKind.u64.wrap (a1)) 1099511627776))
          · rw [if_pos c21] at H
            have c21b0 : ((wrap64 (Int.tmod (IntKind.u64.wrap (a0)) 1099511627776)) == (wrap64 (Int.tmod (IntKind.u64.wrap (a1)) 1099511627776))) = true := beq_iff_eq.mpr c21
            have c21b1 : ((wrap64 (Int.tmod (IntKind.u64.wrap (a0)) 1099511627776)) != (wrap64 (Int.tmod (IntKind.u64.wrap (a1)) 1099511627776))) = false := bne_eq_false_iff_eq.mpr c21
            clear c21
            by_cases c22 : ((t201 == t203) != ((Int.tmod (wrap64 ((Int.tmod a2 16) + 16)) 16) == (Int.tmod (wrap64 ((Int.tmod a3 16) + 16)) 16))) = true
            · rw [if_pos c22] at H
              have c22b0 : ((t201 == t203) != ((Int.tmod (wrap64 ((Int.tmod a2 16) + 16)) 16) == (Int.tmod (wrap64 ((Int.tmod a3 16) + 16)) 16))) = true := c22
              (try (have c22b1 : decide ((t201 == t203) = ((Int.tmod (wrap64 ((Int.tmod a2 16) + 16)) 16) == (Int.tmod (wrap64 ((Int.tmod a3 16) + 16)) 16))) = false := by simpa using c22))
              (try (have c22b2 : ((t201 == t203) == ((Int.tmod (wrap64 ((Int.tmod a2 16) + 16)) 16) == (Int.tmod (wrap64 ((Int.tmod a3 16) + 16)) 16))) = false := by simpa using c22))
              (try (have c22b3 : ¬ ((t201 == t203) = ((Int.tmod (wrap64 ((Int.tmod a2 16) + 16)) 16) == (Int.tmod (wrap64 ((Int.tmod a3 16) + 16)) 16))) := by simpa using c22))
              clear c22
              exact absurd (Option.some.inj H) (by rw [hr_.out]; decide)
            · rw [if_neg c22] at H
              have c22b0 : ((t201 == t203) != ((Int.tmod (wrap64 ((Int.tmod a2 16) + 16)) 16) == (Int.tmod (wrap64 ((Int.tmod a3 16) + 16)) 16))) = false := by simpa using c22
              (try (have c22b1 : decide ((t201 == t203) = ((Int.tmod (wrap64 ((Int.tmod a2 16) + 16)) 16) == (Int.tmod (wrap64 ((Int.tmod a3 16) + 16)) 16))) = true := by simpa using c22))
              (try (have c22b2 : ((t201 == t203) == ((Int.tmod (wrap64 ((Int.tmod a2 16) + 16)) 16) == (Int.tmod (wrap64 ((Int.tmod a3 16) + 16)) 16))) = true := by simpa using c22))
              clear c22
              by_cases c23 : (Int.tmod (wrap64 ((Int.tmod a2 16) + 16)) 16) = (Int.tmod (wrap64 ((Int.tmod a3 16) + 16)) 16)
              · rw [if_pos c23] at H
                have c23b0 : ((Int.tmod (wrap64 ((Int.tmod a2 16) + 16)) 16) == (Int.tmod (wrap64 ((Int.tmod a3 16) + 16)) 16)) = true := beq_iff_eq.mpr c23
                have c23b1 : ((Int.tmod (wrap64 ((Int.tmod a2 16) + 16)) 16) != (Int.tmod (wrap64 ((Int.tmod a3 16) + 16)) 16)) = false := bne_eq_false_iff_eq.mpr c23
                have c23z : (t201 == t203) = true := by rw [c23b0] at c22b2; simpa using c22b2
                clear c23
                obtain rfl := Option.some.inj H
                go_wp2
                go_ret
                exact ⟨by first | rfl | (simp [errW_none, errW_some] <;> rfl) | (simp [*, errW_none, errW_some] <;> rfl), by repeat (first | (with_reducible first | exact HB.out | apply below_alloc | apply pw_below_drewN | apply below_drew1) | exact HB.out)⟩
              · rw [if_neg c23] at H
                have c23b0 : ((Int.tmod (wrap64 ((Int.tmod a2 16) + 16)) 16) == (Int.tmod (wrap64 ((Int.tmod a3 16) + 16)) 16)) = false := beq_eq_false_iff_ne.mpr c23
                have c23b1 : ((Int.tmod (wrap64 ((Int.tmod a2 16) + 16)) 16) != (Int.tmod (wrap64 ((Int.tmod a3 16) + 16)) 16)) = true := bne_iff_ne.mpr c23
                have c23z : (t201 == t203) = false := by rw [c23b0] at c22b2; simpa using c22b2
                obtain rfl := Option.some.inj H
                go_wp2
                go_ret
                exact ⟨by first | rfl | (simp [errW_none, errW_some] <;> rfl) | (simp [*, errW_none, errW_some] <;> rfl), by repeat (first | (with_reducible first | exact HB.out | apply below_alloc | apply pw_below_drewN | apply below_drew1) | exact HB.out)⟩
          · rw [if_neg c21] at H
            have c21b0 : ((wrap64 (Int.tmod (IntKind.u64.wrap (a0)) 1099511627776)) == (wrap64 (Int.tmod (IntKind.u64.wrap (a1)) 1099511627776))) = false := beq_eq_false_iff_ne.mpr c21
            have c21b1 : ((wrap64 (Int.tmod (IntKind.u64.wrap (a0)) 1099511627776)) != (wrap64 (Int.tmod (IntKind.u64.wrap (a1)) 1099511627776))) = true := bne_iff_ne.mpr c21
            by_cases c24 : ((t201 == t203) != false) = true
            · rw [if_pos c24] at H
              have c24b0 : ((t201 == t203) != false) = true := c24
              (try (have c24b1 : decide ((t201 == t203) = false) = false := by simpa using c24))
              (try (have c24b2 : ((t201 == t203) == false) = false := by simpa using c24))
              (try (have c24b3 : ¬ ((t201 == t203) = false) := by simpa using c24))
              clear c24
              exact absurd (Option.some.inj H) (by rw [hr_.out]; decide)
            · rw [if_neg c24] at H
              have c24b0 : ((t201 == t203) != false) = false := by simpa using c24
              (try (have c24b1 : decide ((t201 == t203) = false) = true := by simpa using c24))
              (try (have c24b2 : ((t201 == t203) == false) = true := by simpa using c24))
              clear c24
              by_cases c25 : (Int.tmod (wrap64 ((Int.tmod a2 16) + 16)) 16) = (Int.tmod (wrap64 ((Int.tmod a3 16) + 16)) 16)
              · rw [if_pos c25] at H
                have c25b0 : ((Int.tmod (wrap64 ((Int.tmod a2 16) + 16)) 16) == (Int.tmod (wrap64 ((Int.tmod a3 16) + 16)) 16)) = true := beq_iff_eq.mpr c25
                have c25b1 : ((Int.tmod (wrap64 ((Int.tmod a2 16) + 16)) 16) != (Int.tmod (wrap64 ((Int.tmod a3 16) + 16)) 16)) = false := bne_eq_false_iff_eq.mpr c25
                clear c25
                obtain rfl := Option.some.inj H
                go_wp2
                go_ret
                exact ⟨by first | rfl | (simp [errW_none, errW_some] <;> rfl) | (simp [*, errW_none, errW_some] <;> rfl), by repeat (first | (with_reducible first | exact HB.out | apply below_alloc | apply pw_below_drewN | apply below_drew1) | exact HB.out)⟩
              · rw [if_neg c25] at H
                have c25b0 : ((Int.tmod (wrap64 ((Int.tmod a2 16) + 16)) 16) == (Int.tmod (wrap64 ((Int.tmod a3 16) + 16)) 16)) = false := beq_eq_false_iff_ne.mpr c25
                have c25b1 : ((Int.tmod (wrap64 ((Int.tmod a2 16) + 16)) 16) != (Int.tmod (wrap64 ((Int.tmod a3 16) + 16)) 16)) = true := bne_iff_ne.mpr c25
                obtain rfl := Option.some.inj H
                go_wp2
                go_ret
                exact ⟨by first | rfl | (simp [errW_none, errW_some] <;> rfl) | (simp [*, errW_none, errW_some] <;> rfl), by repeat (first | (with_reducible first | exact HB.out | apply below_alloc | apply pw_below_drewN | apply below_drew1) | exact HB.out)⟩

/-- THE ONE PURE STATEMENT of plaitlaw02_EpochOrder: yours. -/
def plaitlaw02_EpochOrder.Pure : Prop := ∀ (a0 : Int) (a1 : Int) (a2 : Int) (a3 : Int), (Lit.int .i64 a0).wf = true → (Lit.int .i64 a1).wf = true → (Lit.int .i64 a2).wf = true → (Lit.int .i64 a3).wf = true → ∃ k, plaitlaw02_EpochOrder.f k a0 a1 a2 a3 = some true
theorem plaitlaw02_EpochOrder.walk (P : plaitlaw02_EpochOrder.Pure) (a0 : Int) (a1 : Int) (a2 : Int) (a3 : Int) (w : World) (w0 : (Lit.int .i64 a0).wf = true) (w1 : (Lit.int .i64 a1).wf = true) (w2 : (Lit.int .i64 a2).wf = true) (w3 : (Lit.int .i64 a3).wf = true) :
    Calls Try.prog 5 #[.int .i64 a0, .int .i64 a1, .int .i64 a2, .int .i64 a3] w fun e w' => e = .returned (.bool true) ∧ Below w.heap.size w w' := by
  obtain ⟨k, h⟩ := P a0 a1 a2 a3 w0 w1 w2 w3
  refine (plaitlaw02_EpochOrder.calls k a0 a1 a2 a3 true w h ⟨rfl⟩).mono ?_
  rintro e w' ⟨rfl, hd⟩
  exact ⟨rfl, hd⟩

end Go.Proofs.Ytipmoncamnafbaa.X
