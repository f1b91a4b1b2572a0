/- Called with any input, the law OnceIs returns true, and each argument reads afterwards as it did; no conditions beside the row's own. -/
import Derived.Test.YtegbkaaibgdheaaRows
import Derived.Test.YtegbkaaibgdheaaVoOI
import Derived.WalkKit
import Derived.ProofKit
import Derived.OpenShut
import Derived.ShutString
import Derived.ChangeOld
import Derived.Below
import Derived.SizedLaws
namespace Go.Proofs.Ytegbkaaibgdheaa.onceIs
open Go.ChangeShapes Go.WideShapes Go.ChangeAt Go.RowKit
open Go.ChangeMaps (open_string shut_string)
open Go.Proofs.Ytegbkaaibgdheaa.VX (trodAll_data trodAll_below law_calls wfHL HL Ty)
set_option linter.unusedVariables false
theorem own : ownKnob Try.prog.godebug = none := by kernel_rfl
theorem laidOut : laidOutB Try.prog = true := by kernel_rfl
set_option maxRecDepth 100000 in
theorem lifted (os : Os) (started : os.Started) (H : Type) (enc : TypeId × Value → H) :
    ReturnsInHanded {} Try.checked os 12 .any (Rows.onceIsSpec.pre6 enc Try.prog Try.f12 Rows.onceIsRow.domain false) (Rows.onceIsSpec.post enc Try.prog Try.f12 false true false false) := by
  refine returnsInHanded_of_change_sized (C := Try.checked) own started (by kernel_rfl) Try.func12
    (ChangeSpec.witness6 (enc := enc) (C := Try.checked) false ⟨#[], #[.slice none 0 0], []⟩ 8 (by kernel_rfl) (by kernel_rfl) (by kernel_rfl) (by kernel_rfl)) ?_
  intro W base args ds gs before hval0 hW hcnd hsz0 _
  have hval : ∀ (j : Nat) t v, Try.f12.params[j]? = some t → args[j]? = some v → Value.okWide Try.prog W .any base t v := hval0
  have hW' := hW
  obtain ⟨p, q, hA0, hV, rfl, hfz, hnd⟩ := hW
  have hA : DataW.TrodAll enc Try.prog W 0 (fun _ => true) true Try.f12.params.toList args.toList ds p := hA0
  rw [Try.params12] at hA hval
  obtain ⟨x, x1, x2⟩ := trodAll_data (P := Try.prog) (n := 12) (tys := [(.slice (.int .i64))]) (by kernel_rfl) (fun j t v e1 e2 => hval j t v (by simpa using e1) (by simpa using e2)) hA
  have hB := hA
  obtain ⟨v0, vs0, d0, ds0, p0, q0, ha0, rfl, rfl, h0, r0⟩ := trodAll_cons hB
  obtain ⟨rfl, rfl, rfl⟩ := trodAll_nil r0
  obtain ⟨rfl, rfl⟩ := trodVars_none hV
  have hc := law_calls Go.Proofs.Ytegbkaaibgdheaa.VX.VxB_O.F_plaitlaw11_OnceIs_ok x1 (Go.Proofs.Ytegbkaaibgdheaa.VX.VxB_O.onceIs_law x x2)
  rw [show args.toList.toArray = args by simp] at hc
  refine hc.mono fun e W' ⟨he, bel⟩ => ?_
  subst he
  exact ⟨_, rfl, _, _, _, [], _, [], hW', trodAll_mk1 (shut_bool Try.underlying4 _), trodAll_below laidOut bel (by intro t ht; have ht : t ∈ [22] := ht; simp only [List.mem_cons, List.not_mem_nil, or_false] at ht; rcases ht with rfl <;> exact ⟨by kernel_rfl, of_decide_eq_true (by kernel_rfl)⟩) hA, rfl, bel.frame _, fun h => by cases h⟩
theorem over : Rows.onceIsRow.holds Try.pinned (OpenSpec.ofChange Rows.onceIsSpec) :=
  OpenClaim.holds_of_wide 12 Try.f12 rfl rfl rfl rfl rfl rfl rfl ⟨rfl, rfl, rfl, rfl, rfl⟩ rfl rfl rfl rfl rfl (by kernel_rfl) Try.func12 (by kernel_rfl)
    (of_decide_eq_true (by kernel_rfl)) (by unfold Func.isWrapper; first | (rw [if_pos (by decide +kernel)]; kernel_rfl) | (rw [if_neg (by decide +kernel)]; exact ⟨rfl, rfl⟩))
    (fun os started H enc _ => lifted os started H enc)
theorem proved : Rows.OnceIsSaid := over
#print axioms proved
end Go.Proofs.Ytegbkaaibgdheaa.onceIs
namespace Go.Proofs.Ytegbkaaibgdheaa
/-- The row, under a short name, for the claim. -/
theorem onceIs_holds : Rows.OnceIsSaid := onceIs.proved
end Go.Proofs.Ytegbkaaibgdheaa
