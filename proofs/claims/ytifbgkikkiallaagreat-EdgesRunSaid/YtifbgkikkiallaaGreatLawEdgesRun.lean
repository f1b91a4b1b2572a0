/- Called with any input, the law EdgesRun returns true, and each argument reads afterwards as it did; no conditions beside the row's own. -/
import Derived.Test.YtifbgkikkiallaaGreatRows
import Derived.Test.YtifbgkikkiallaaGreatEdgesRunP3
import Derived.WalkKit
import Derived.ProofKit
import Derived.OpenShut
import Derived.ShutString
import Derived.ChangeOld
import Derived.Below
import Derived.SizedLaws
namespace Go.Proofs.YtifbgkikkiallaaGreat.edgesRun
open Go.ChangeShapes Go.WideShapes Go.ChangeAt Go.RowKit
open Go.ChangeMaps (open_string shut_string)
open Go.Proofs.YtifbgkikkiallaaGreat.VX (trodAll_data trodAll_below law_calls wfHL HL Ty)
set_option linter.unusedVariables false
theorem own : ownKnob Tryz.prog.godebug = none := by kernel_rfl
theorem laidOut : laidOutB Tryz.prog = true := by kernel_rfl
set_option maxRecDepth 100000 in
theorem lifted (os : Os) (started : os.Started) (H : Type) (enc : TypeId × Value → H) :
    ReturnsInHanded {} Tryz.checked os 3 .any (Rows.edgesRunSpec.pre6 enc Tryz.prog Tryz.f3 Rows.edgesRunRow.domain false) (Rows.edgesRunSpec.post enc Tryz.prog Tryz.f3 false true false false) := by
  refine returnsInHanded_of_change_sized (C := Tryz.checked) own started (by kernel_rfl) Tryz.func3
    (ChangeSpec.witness6 (enc := enc) (C := Tryz.checked) false ⟨#[], #[.agg #[.slice none 0 0, .int .i64 0, .int .i64 0, .int .i64 0, .slice none 0 0, .slice none 0 0], .slice none 0 0, .int .i64 0], []⟩ 8 (by kernel_rfl) (by kernel_rfl) (by kernel_rfl) (by kernel_rfl)) ?_
  intro W base args ds gs before hval0 hW hcnd hsz0 _
  have hval : ∀ (j : Nat) t v, Tryz.f3.params[j]? = some t → args[j]? = some v → Value.okWide Tryz.prog W .any base t v := hval0
  have hW' := hW
  obtain ⟨p, q, hA0, hV, rfl, hfz, hnd⟩ := hW
  have hA : DataW.TrodAll enc Tryz.prog W 0 (fun _ => true) true Tryz.f3.params.toList args.toList ds p := hA0
  rw [Tryz.params3] at hA hval
  obtain ⟨x, x1, x2⟩ := trodAll_data (P := Tryz.prog) (n := 12) (tys := [(.pair (.slice (.int .i64)) (.pair (.int .i64) (.pair (.int .i64) (.pair (.int .i64) (.pair (.slice (.pair (.slice (.pair .bool (.int .i64))) .bool)) (.slice (.slice (.pair (.int .i64) (.pair (.int .i64) (.int .i64)))))))))), (.slice (.int .i64)), (.int .i64)]) (by kernel_rfl) (fun j t v e1 e2 => hval j t v (by simpa using e1) (by simpa using e2)) hA
  have hB := hA
  obtain ⟨v0, vs0, d0, ds0, p0, q0, ha0, rfl, rfl, h0, r0⟩ := trodAll_cons hB
  obtain ⟨v1, vs1, d1, ds1, p1, q1, ha1, rfl, rfl, h1, r1⟩ := trodAll_cons r0
  obtain ⟨v2, vs2, d2, ds2, p2, q2, ha2, rfl, rfl, h2, r2⟩ := trodAll_cons r1
  obtain ⟨rfl, rfl, rfl⟩ := trodAll_nil r2
  obtain ⟨rfl, rfl⟩ := trodVars_none hV
  have hc := law_calls Go.Proofs.YtifbgkikkiallaaGreat.VX.VxZ_Z.F_plaitlaw15_EdgesRun_ok x1 (Go.Proofs.YtifbgkikkiallaaGreat.VX.VxZ_Z.edgesRun_wf x x2)
  rw [show args.toList.toArray = args by simp] at hc
  refine hc.mono fun e W' ⟨he, bel⟩ => ?_
  subst he
  exact ⟨_, rfl, _, _, _, [], _, [], hW', trodAll_mk1 (shut_bool Tryz.underlying4 _), trodAll_below laidOut bel (by intro t ht; have ht : t ∈ [26, 22, 3] := ht; simp only [List.mem_cons, List.not_mem_nil, or_false] at ht; rcases ht with rfl | rfl | rfl <;> exact ⟨by kernel_rfl, of_decide_eq_true (by kernel_rfl)⟩) hA, rfl, bel.frame _, fun h => by cases h⟩
theorem and_t {a b : Bool} (ha : a = true) (hb : b = true) : (a && b) = true := by rw [ha, hb]; rfl
theorem jP : (Rows.edgesRunRow.inPlace == Tryz.pinned.checked.prog.inPlace 3) = true := by kernel_rfl
theorem jU : (Rows.edgesRunRow.unfollowed == Tryz.pinned.checked.prog.unfollowed 3) = true := by kernel_rfl
theorem jR : (Rows.edgesRunRow.recurses == Tryz.pinned.checked.prog.recurses 3) = true := by kernel_rfl
theorem jV : (Rows.edgesRunRow.named == Tryz.pinned.checked.prog.varsNamed 3) = true := by kernel_rfl
theorem jL : laidOutB Tryz.pinned.checked.prog = true := by kernel_rfl
theorem jM : mapsRowed Tryz.pinned.checked.prog = true := by kernel_rfl
theorem closed : joinedFacts Tryz.pinned.checked.prog 3 Tryz.f3 Rows.edgesRunSpec Rows.edgesRunRow = true := by
  unfold joinedFacts
  repeat' with_reducible apply and_t
  all_goals first | with_reducible exact jP | with_reducible exact jU | with_reducible exact jR | with_reducible exact jV | with_reducible exact jL | with_reducible exact jM | kernel_rfl
theorem over : Rows.edgesRunRow.holds Tryz.pinned (OpenSpec.ofChange Rows.edgesRunSpec) :=
  OpenClaim.holds_of_wide 3 Tryz.f3 rfl rfl rfl rfl rfl rfl rfl ⟨rfl, rfl, rfl, rfl, rfl⟩ rfl rfl rfl rfl rfl (by kernel_rfl) Tryz.func3 closed
    (of_decide_eq_true (by kernel_rfl)) (by unfold Func.isWrapper; first | (rw [if_pos (by decide +kernel)]; kernel_rfl) | (rw [if_neg (by decide +kernel)]; exact ⟨rfl, rfl⟩))
    (fun os started H enc _ => lifted os started H enc)
theorem proved : Rows.EdgesRunSaid := over
#print axioms proved
end Go.Proofs.YtifbgkikkiallaaGreat.edgesRun
namespace Go.Proofs.YtifbgkikkiallaaGreat
/-- The row, under a short name, for the claim. -/
theorem edgesRun_holds : Rows.EdgesRunSaid := edgesRun.proved
end Go.Proofs.YtifbgkikkiallaaGreat
