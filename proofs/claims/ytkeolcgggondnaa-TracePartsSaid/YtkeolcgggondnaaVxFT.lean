import Derived.Test.YtkeolcgggondnaaVxR
import Derived.Test.YtkeolcgggondnaaVxH
import Derived.Test.YtkeolcgggondnaaVxI
import Derived.Test.YtkeolcgggondnaaVxT2
set_option linter.unusedVariables false
set_option maxRecDepth 100000
namespace Go.Proofs.Ytkeolcgggondnaa.VX.VxF_T
open Go.Proofs Go.Proofs.Ytkeolcgggondnaa.VX.T2
theorem mixed : Try.prog.follows .mixedOrders = true := by kernel_rfl
abbrev si_plaitlaw14_few : Shape := { sl := [(0, (.hole (.slice (.pair (.int .i64) (.pair (.int .i64) (.pair (.int .i64) (.pair (.int .i64) (.int .i64))))))))], bl := [], ts := [(.slice (.pair (.int .i64) (.pair (.int .i64) (.pair (.int .i64) (.pair (.int .i64) (.int .i64))))))], pin := 0 }
abbrev so_plaitlaw14_few : Shape := { sl := [(0, (.hole (.slice (.pair (.int .i64) (.pair (.int .i64) (.pair (.int .i64) (.pair (.int .i64) (.int .i64))))))))], bl := [], ts := [(.slice (.pair (.int .i64) (.pair (.int .i64) (.pair (.int .i64) (.pair (.int .i64) (.int .i64))))))], pin := 0 }
noncomputable def F_plaitlaw14_few (x : (List ((Int × (Int × (Int × (Int × Int))))))) : Option (List ((Int × (Int × (Int × (Int × Int)))))) :=
  bif (Go.Proofs.Ytkeolcgggondnaa.VX.sub3 (0 : Int) (Min.min (((List.length x) : Nat) : Int) (150 : Int)) (List.length x)) then
    some (Go.Proofs.Ytkeolcgggondnaa.VX.cut x (Go.Proofs.Ytkeolcgggondnaa.VX.toN (0 : Int)) ((Go.Proofs.Ytkeolcgggondnaa.VX.toN (Min.min (((List.length x) : Nat) : Int) (150 : Int))) - (Go.Proofs.Ytkeolcgggondnaa.VX.toN (0 : Int))))
  else
    none
noncomputable def cx_plaitlaw14_few : Ctx := { tb := mkTb T2.tbl, fx := [], sum := [], nt := 8, pin := 0, nr := true, ys := [] }
theorem F_plaitlaw14_few_ok : Sound Try.prog 7 (Spec.shp si_plaitlaw14_few so_plaitlaw14_few F_plaitlaw14_few) :=
  Sound.shp (C := cx_plaitlaw14_few) (fn := Try.f7) (by kernel_rfl) (c := bodyOf Try.f7) (by kernel_rfl) (by decide) (ctxOK mixed tbl_ok rfl trivial trivial) (SumOK.of trivial) (by kernel_rfl) si_plaitlaw14_few so_plaitlaw14_few rfl (by decide) (by decide) rfl (by decide) rfl F_plaitlaw14_few (fun x => by kernel_rfl)
abbrev si_trace_in : Shape := { sl := [(0, (.hole (.int .i64))), (1, (.hole (.int .i64))), (2, (.hole (.int .i64)))], bl := [], ts := [(.int .i64), (.int .i64), (.int .i64)], pin := 0 }
abbrev so_trace_in : Shape := { sl := [(0, (.hole .bool))], bl := [], ts := [.bool], pin := 0 }
noncomputable def F_trace_in (x : (Int × Int × Int)) : Option (Bool) :=
  bif (decide (x.1 ≥ x.2.1)) then
    some (decide (x.1 ≤ x.2.2))
  else
    some false
noncomputable def cx_trace_in : Ctx := { tb := mkTb T2.tbl, fx := [], sum := [], nt := 15, pin := 0, nr := true, ys := [] }
theorem F_trace_in_ok : Sound Try.prog 32 (Spec.shp si_trace_in so_trace_in F_trace_in) :=
  Sound.shp (C := cx_trace_in) (fn := Try.f32) (by kernel_rfl) (c := bodyOf Try.f32) (by kernel_rfl) (by decide) (ctxOK mixed tbl_ok rfl trivial trivial) (SumOK.of trivial) (by kernel_rfl) si_trace_in so_trace_in rfl (by decide) (by decide) rfl (by decide) rfl F_trace_in (fun x => by kernel_rfl)
abbrev si_trace_Wrong_1 : Shape := { sl := [(0, (.hole (.int .i64)))], bl := [], ts := [(.int .i64)], pin := 0 }
abbrev so_trace_Wrong_1 : Shape := { sl := [(0, (.hole .bool))], bl := [], ts := [.bool], pin := 0 }
noncomputable def F_trace_Wrong_1 (x : (Int)) : Option (Bool) :=
  ((F_trace_in (x, ((Int.negSucc 0), (3 : Int))))).bind fun r7 =>
  some (Bool.not r7)
noncomputable def cx_trace_Wrong_1 : Ctx := { tb := mkTb T2.tbl, fx := [(32, [], Spec.shp si_trace_in so_trace_in F_trace_in)], sum := [], nt := 6, pin := 0, nr := true, ys := [] }
theorem F_trace_Wrong_1_ok : Sound Try.prog 31 (Spec.shp si_trace_Wrong_1 so_trace_Wrong_1 F_trace_Wrong_1) :=
  Sound.shp (C := cx_trace_Wrong_1) (fn := Try.f31) (by kernel_rfl) (c := bodyOf Try.f31) (by kernel_rfl) (by decide) (ctxOK mixed tbl_ok rfl ⟨F_trace_in_ok, trivial⟩ trivial) (SumOK.of trivial) (by kernel_rfl) si_trace_Wrong_1 so_trace_Wrong_1 rfl (by decide) (by decide) rfl (by decide) rfl F_trace_Wrong_1 (fun x => by kernel_rfl)
abbrev sh_slices_IndexFunc_int__trace_Wrong_1_3 : Shape := { sl := [(0, (.hole (.slice (.int .i64)))), (1, (.fn 31 .nil .nil)), (7, (.hole (.int .i64))), (8, (.hole (.int .i64)))], bl := [], ts := [(.slice (.int .i64)), (.int .i64), (.int .i64)], pin := 0 }
abbrev es_slices_IndexFunc_int__trace_Wrong_1_3 : List (ETag × Shape) := [(.ret, { sl := [(4, (.hole (.int .i64)))], bl := [], ts := [(.int .i64)], pin := 0 }), (.exit 0, { sl := [], bl := [], ts := [], pin := 0 })]
noncomputable def L_slices_IndexFunc_int__trace_Wrong_1_3 (x : (List (Int) × Int × Int)) : Option ((List (Int) × Int × Int) ⊕ ((Int) ⊕ Unit)) :=
  bif (decide (x.2.2 < x.2.1)) then
    bif (Go.Proofs.Ytkeolcgggondnaa.VX.inb x.2.2 (List.length x.1)) then
      ((F_trace_Wrong_1 (Go.Proofs.Ytkeolcgggondnaa.VX.getAt (0 : Int) x.1 (Go.Proofs.Ytkeolcgggondnaa.VX.toN x.2.2)))).bind fun r6 =>
      bif r6 then
        some (.inr (.inl x.2.2))
      else
        some (.inl (x.1, (x.2.1, (Go.IntKind.wrap Go.IntKind.i64 (x.2.2 + (1 : Int))))))
    else
      none
  else
    some (.inr (.inr ()))
noncomputable def cx_slices_IndexFunc_int__trace_Wrong_1_3 : Ctx := { tb := mkTb T2.tbl, fx := [(31, [], Spec.shp si_trace_Wrong_1 so_trace_Wrong_1 F_trace_Wrong_1)], sum := [], nt := 19, pin := 0, nr := true, ys := [] }
theorem L_slices_IndexFunc_int__trace_Wrong_1_3_ok : CSound Try.prog ⟨19, 0, true⟩ (.loop (loopOf 3 Try.f47)) (pieceSpec sh_slices_IndexFunc_int__trace_Wrong_1_3 es_slices_IndexFunc_int__trace_Wrong_1_3 (loop L_slices_IndexFunc_int__trace_Wrong_1_3)) :=
  loop_sound (C := cx_slices_IndexFunc_int__trace_Wrong_1_3) (ctxOK mixed tbl_ok rfl ⟨F_trace_Wrong_1_ok, trivial⟩ trivial) (SumOK.of trivial) sh_slices_IndexFunc_int__trace_Wrong_1_3 es_slices_IndexFunc_int__trace_Wrong_1_3 rfl rfl L_slices_IndexFunc_int__trace_Wrong_1_3 (fun x => by kernel_rfl)
abbrev si_slices_IndexFunc_int__trace_Wrong_1 : Shape := { sl := [(0, (.hole (.slice (.int .i64)))), (1, (.fn 31 .nil .nil))], bl := [], ts := [(.slice (.int .i64))], pin := 0 }
abbrev so_slices_IndexFunc_int__trace_Wrong_1 : Shape := { sl := [(0, (.hole (.int .i64)))], bl := [], ts := [(.int .i64)], pin := 0 }
noncomputable def F_slices_IndexFunc_int__trace_Wrong_1 (x : (List (Int))) : Option (Int) :=
  ((loop L_slices_IndexFunc_int__trace_Wrong_1_3 (x, ((((List.length x) : Nat) : Int), (0 : Int))))).bind fun r5 =>
  match r5 with
  | .inl y6 =>
    some y6
  | .inr y6 =>
    some (Int.negSucc 0)
noncomputable def cx_slices_IndexFunc_int__trace_Wrong_1 : Ctx := { tb := mkTb T2.tbl, fx := [(31, [], Spec.shp si_trace_Wrong_1 so_trace_Wrong_1 F_trace_Wrong_1)], sum := [(0, 3, pieceSpec sh_slices_IndexFunc_int__trace_Wrong_1_3 es_slices_IndexFunc_int__trace_Wrong_1_3 (loop L_slices_IndexFunc_int__trace_Wrong_1_3))], nt := 19, pin := 0, nr := true, ys := [] }
theorem F_slices_IndexFunc_int__trace_Wrong_1_ok : Sound Try.prog 47 (Spec.shp si_slices_IndexFunc_int__trace_Wrong_1 so_slices_IndexFunc_int__trace_Wrong_1 F_slices_IndexFunc_int__trace_Wrong_1) :=
  Sound.shp (C := cx_slices_IndexFunc_int__trace_Wrong_1) (fn := Try.f47) (by kernel_rfl) (c := bodyOf Try.f47) (by kernel_rfl) (by decide) (ctxOK mixed tbl_ok rfl ⟨F_trace_Wrong_1_ok, trivial⟩ trivial) (SumOK.of ⟨(pieces_one (d := .loop (loopOf 3 Try.f47)) (by kernel_rfl) L_slices_IndexFunc_int__trace_Wrong_1_3_ok), trivial⟩) (by kernel_rfl) si_slices_IndexFunc_int__trace_Wrong_1 so_slices_IndexFunc_int__trace_Wrong_1 rfl (by decide) (by decide) rfl (by decide) rfl F_slices_IndexFunc_int__trace_Wrong_1 (fun x => by kernel_rfl)
abbrev si_slices_ContainsFunc_int__trace_Wrong_1 : Shape := { sl := [(0, (.hole (.slice (.int .i64)))), (1, (.fn 31 .nil .nil))], bl := [], ts := [(.slice (.int .i64))], pin := 0 }
abbrev so_slices_ContainsFunc_int__trace_Wrong_1 : Shape := { sl := [(0, (.hole .bool))], bl := [], ts := [.bool], pin := 0 }
noncomputable def F_slices_ContainsFunc_int__trace_Wrong_1 (x : (List (Int))) : Option (Bool) :=
  ((F_slices_IndexFunc_int__trace_Wrong_1 x)).bind fun r4 =>
  some (decide (r4 ≥ (0 : Int)))
noncomputable def cx_slices_ContainsFunc_int__trace_Wrong_1 : Ctx := { tb := mkTb T2.tbl, fx := [(47, [31], Spec.shp si_slices_IndexFunc_int__trace_Wrong_1 so_slices_IndexFunc_int__trace_Wrong_1 F_slices_IndexFunc_int__trace_Wrong_1)], sum := [], nt := 9, pin := 0, nr := true, ys := [] }
theorem F_slices_ContainsFunc_int__trace_Wrong_1_ok : Sound Try.prog 30 (Spec.shp si_slices_ContainsFunc_int__trace_Wrong_1 so_slices_ContainsFunc_int__trace_Wrong_1 F_slices_ContainsFunc_int__trace_Wrong_1) :=
  Sound.shp (C := cx_slices_ContainsFunc_int__trace_Wrong_1) (fn := Try.f30) (by kernel_rfl) (c := bodyOf Try.f30) (by kernel_rfl) (by decide) (ctxOK mixed tbl_ok rfl ⟨F_slices_IndexFunc_int__trace_Wrong_1_ok, trivial⟩ trivial) (SumOK.of trivial) (by kernel_rfl) si_slices_ContainsFunc_int__trace_Wrong_1 so_slices_ContainsFunc_int__trace_Wrong_1 rfl (by decide) (by decide) rfl (by decide) rfl F_slices_ContainsFunc_int__trace_Wrong_1 (fun x => by kernel_rfl)
abbrev si_trace_origins : Shape := { sl := [], bl := [], ts := [], pin := 0 }
abbrev so_trace_origins : Shape := { sl := [(0, (.mp 0))], bl := [.mp (.int .i64) (.int .i64)], ts := [(.slice (.pair (.int .i64) (.int .i64)))], pin := 0 }
noncomputable def F_trace_origins (x : Unit) : Option (List ((Int × Int))) :=
  some (@Go.Proofs.Ytkeolcgggondnaa.VX.mput (Int) (Int) (Go.Proofs.Ytkeolcgggondnaa.VX.Ty.beq (.int .i64)) (15 : Int) (13 : Int) (@Go.Proofs.Ytkeolcgggondnaa.VX.mput (Int) (Int) (Go.Proofs.Ytkeolcgggondnaa.VX.Ty.beq (.int .i64)) (11 : Int) (10 : Int) (@Go.Proofs.Ytkeolcgggondnaa.VX.mput (Int) (Int) (Go.Proofs.Ytkeolcgggondnaa.VX.Ty.beq (.int .i64)) (9 : Int) (8 : Int) (@Go.Proofs.Ytkeolcgggondnaa.VX.mput (Int) (Int) (Go.Proofs.Ytkeolcgggondnaa.VX.Ty.beq (.int .i64)) (6 : Int) (4 : Int) (@Go.Proofs.Ytkeolcgggondnaa.VX.mput (Int) (Int) (Go.Proofs.Ytkeolcgggondnaa.VX.Ty.beq (.int .i64)) (5 : Int) (4 : Int) (@Go.Proofs.Ytkeolcgggondnaa.VX.mput (Int) (Int) (Go.Proofs.Ytkeolcgggondnaa.VX.Ty.beq (.int .i64)) (3 : Int) (2 : Int) ([] : List (Int × Int))))))))
noncomputable def cx_trace_origins : Ctx := { tb := mkTb T2.tbl, fx := [], sum := [], nt := 3, pin := 0, nr := true, ys := [] }
theorem F_trace_origins_ok : Sound Try.prog 33 (Spec.shp si_trace_origins so_trace_origins F_trace_origins) :=
  Sound.shp (C := cx_trace_origins) (fn := Try.f33) (by kernel_rfl) (c := bodyOf Try.f33) (by kernel_rfl) (by decide) (ctxOK mixed tbl_ok rfl trivial trivial) (SumOK.of trivial) (by kernel_rfl) si_trace_origins so_trace_origins rfl (by decide) (by decide) rfl (by decide) rfl F_trace_origins (fun x => by kernel_rfl)
abbrev si_trace_judge_rules : Shape := { sl := [(0, (.ptr 0 []))], bl := [.var (.pr (.hole (.slice (.int .i64))) (.pr (.mp 1) (.pr (.hole (.arr 8 (.int .i64))) (.pr (.hole (.int .i64)) (.pr (.mp 2) (.pr (.mp 3) .nilm)))))), .mp (.pair (.int .i64) (.int .i64)) (.int .i64), .mp (.int .i64) (.int .i64), .mp (.int .i64) (.int .i64)], ts := [(.slice (.int .i64)), (.arr 8 (.int .i64)), (.int .i64), (.slice (.pair (.pair (.int .i64) (.int .i64)) (.int .i64))), (.slice (.pair (.int .i64) (.int .i64))), (.slice (.pair (.int .i64) (.int .i64)))], pin := 0 }
abbrev so_trace_judge_rules : Shape := { sl := [(0, (.mp 4))], bl := [.var (.pr (.hole (.slice (.int .i64))) (.pr (.mp 1) (.pr (.hole (.arr 8 (.int .i64))) (.pr (.hole (.int .i64)) (.pr (.mp 2) (.pr (.mp 3) .nilm)))))), .mp (.pair (.int .i64) (.int .i64)) (.int .i64), .mp (.int .i64) (.int .i64), .mp (.int .i64) (.int .i64), .fm [1, 3, 5, 6, 7, 11, 12, 14, 15] (.cons (.fn 50 .nil (.cons (.ptr 5 []) .nil)) (.cons (.fn 51 .nil (.cons (.ptr 5 []) .nil)) (.cons (.fn 53 .nil (.cons (.ptr 5 []) .nil)) (.cons (.fn 54 .nil (.cons (.ptr 5 []) .nil)) (.cons (.fn 55 .nil (.cons (.ptr 5 []) .nil)) (.cons (.fn 56 .nil (.cons (.ptr 6 []) .nil)) (.cons (.fn 57 .nil (.cons (.ptr 6 []) .nil)) (.cons (.fn 58 .nil (.cons (.ptr 5 []) .nil)) (.cons (.fn 59 .nil (.cons (.ptr 5 []) .nil)) .nil))))))))), .var (.ptr 0 []), .var (.fn 48 .nil (.cons (.ptr 5 []) .nil))], ts := [(.slice (.int .i64)), (.arr 8 (.int .i64)), (.int .i64), (.slice (.pair (.pair (.int .i64) (.int .i64)) (.int .i64))), (.slice (.pair (.int .i64) (.int .i64))), (.slice (.pair (.int .i64) (.int .i64)))], pin := 4 }
noncomputable def F_trace_judge_rules (x : (List (Int) × List (Int) × Int × List (((Int × Int) × Int)) × List ((Int × Int)) × List ((Int × Int)))) : Option (List (Int) × List (Int) × Int × List (((Int × Int) × Int)) × List ((Int × Int)) × List ((Int × Int))) :=
  some (x.1, (x.2.1, (x.2.2.1, (x.2.2.2.1, (x.2.2.2.2.1, x.2.2.2.2.2)))))
noncomputable def cx_trace_judge_rules : Ctx := { tb := mkTb T2.tbl, fx := [], sum := [], nt := 16, pin := 4, nr := true, ys := [] }
theorem F_trace_judge_rules_ok : Sound Try.prog 34 (Spec.shp si_trace_judge_rules so_trace_judge_rules F_trace_judge_rules) :=
  Sound.shp (C := cx_trace_judge_rules) (fn := Try.f34) (by kernel_rfl) (c := bodyOf Try.f34) (by kernel_rfl) (by decide) (ctxOK mixed tbl_ok rfl trivial trivial) (SumOK.of trivial) (by kernel_rfl) si_trace_judge_rules so_trace_judge_rules rfl (by decide) (by decide) rfl (by decide) rfl F_trace_judge_rules (fun x => by kernel_rfl)
abbrev si_trace_judge_begins : Shape := { sl := [(0, (.ptr 0 [])), (1, (.hole (.slice (.pair (.int .i64) (.pair (.int .i64) (.pair (.int .i64) (.pair (.int .i64) (.int .i64)))))))), (2, (.hole (.pair (.int .i64) (.pair (.int .i64) (.pair (.int .i64) (.pair (.int .i64) (.int .i64)))))))], bl := [.var (.pr (.hole (.slice (.int .i64))) (.pr (.mp 1) (.pr (.hole (.arr 8 (.int .i64))) (.pr (.hole (.int .i64)) (.pr (.mp 2) (.pr (.mp 3) (.mp 4))))))), .mp (.pair (.int .i64) (.int .i64)) (.int .i64), .mp (.int .i64) (.int .i64), .mp (.int .i64) (.int .i64), .fm [1, 3, 5, 6, 7, 11, 12, 14, 15] (.cons (.fn 50 .nil (.cons (.ptr 5 []) .nil)) (.cons (.fn 51 .nil (.cons (.ptr 5 []) .nil)) (.cons (.fn 53 .nil (.cons (.ptr 5 []) .nil)) (.cons (.fn 54 .nil (.cons (.ptr 5 []) .nil)) (.cons (.fn 55 .nil (.cons (.ptr 5 []) .nil)) (.cons (.fn 56 .nil (.cons (.ptr 6 []) .nil)) (.cons (.fn 57 .nil (.cons (.ptr 6 []) .nil)) (.cons (.fn 58 .nil (.cons (.ptr 5 []) .nil)) (.cons (.fn 59 .nil (.cons (.ptr 5 []) .nil)) .nil))))))))), .var (.ptr 0 []), .var (.fn 48 .nil (.cons (.ptr 5 []) .nil))], ts := [(.slice (.pair (.int .i64) (.pair (.int .i64) (.pair (.int .i64) (.pair (.int .i64) (.int .i64)))))), (.pair (.int .i64) (.pair (.int .i64) (.pair (.int .i64) (.pair (.int .i64) (.int .i64))))), (.slice (.int .i64)), (.arr 8 (.int .i64)), (.int .i64), (.slice (.pair (.pair (.int .i64) (.int .i64)) (.int .i64))), (.slice (.pair (.int .i64) (.int .i64))), (.slice (.pair (.int .i64) (.int .i64)))], pin := 0 }
abbrev so_trace_judge_begins : Shape := { sl := [(0, (.hole .bool))], bl := [.var (.pr (.hole (.slice (.int .i64))) (.pr (.mp 1) (.pr (.hole (.arr 8 (.int .i64))) (.pr (.hole (.int .i64)) (.pr (.mp 2) (.pr (.mp 3) (.mp 4))))))), .mp (.pair (.int .i64) (.int .i64)) (.int .i64), .mp (.int .i64) (.int .i64), .mp (.int .i64) (.int .i64), .fm [1, 3, 5, 6, 7, 11, 12, 14, 15] (.cons (.fn 50 .nil (.cons (.ptr 5 []) .nil)) (.cons (.fn 51 .nil (.cons (.ptr 5 []) .nil)) (.cons (.fn 53 .nil (.cons (.ptr 5 []) .nil)) (.cons (.fn 54 .nil (.cons (.ptr 5 []) .nil)) (.cons (.fn 55 .nil (.cons (.ptr 5 []) .nil)) (.cons (.fn 56 .nil (.cons (.ptr 6 []) .nil)) (.cons (.fn 57 .nil (.cons (.ptr 6 []) .nil)) (.cons (.fn 58 .nil (.cons (.ptr 5 []) .nil)) (.cons (.fn 59 .nil (.cons (.ptr 5 []) .nil)) .nil))))))))), .var (.ptr 0 []), .var (.fn 48 .nil (.cons (.ptr 5 []) .nil))], ts := [.bool, (.slice (.int .i64)), (.arr 8 (.int .i64)), (.int .i64), (.slice (.pair (.pair (.int .i64) (.int .i64)) (.int .i64))), (.slice (.pair (.int .i64) (.int .i64))), (.slice (.pair (.int .i64) (.int .i64)))], pin := 7 }
noncomputable def F_trace_judge_begins (x : (List ((Int × (Int × (Int × (Int × Int))))) × (Int × (Int × (Int × (Int × Int)))) × List (Int) × List (Int) × Int × List (((Int × Int) × Int)) × List ((Int × Int)) × List ((Int × Int)))) : Option (Bool × List (Int) × List (Int) × Int × List (((Int × Int) × Int)) × List ((Int × Int)) × List ((Int × Int))) :=
  bif (Go.Proofs.Ytkeolcgggondnaa.VX.inb x.2.1.1 8) then
    bif (decide ((Go.Proofs.Ytkeolcgggondnaa.VX.getAt (0 : Int) x.2.2.2.1 (Go.Proofs.Ytkeolcgggondnaa.VX.toN x.2.1.1)) > (0 : Int))) then
      some (false, (x.2.2.1, (x.2.2.2.1, (x.2.2.2.2.1, (x.2.2.2.2.2.1, (x.2.2.2.2.2.2.1, x.2.2.2.2.2.2.2))))))
    else
      bif (x.2.1.2.2.1 != (0 : Int)) then
        some (false, (x.2.2.1, (x.2.2.2.1, (x.2.2.2.2.1, (x.2.2.2.2.2.1, (x.2.2.2.2.2.2.1, x.2.2.2.2.2.2.2))))))
      else
        bif (x.2.1.2.2.2.1 != (0 : Int)) then
          some (false, (x.2.2.1, (x.2.2.2.1, (x.2.2.2.2.1, (x.2.2.2.2.2.1, (x.2.2.2.2.2.2.1, x.2.2.2.2.2.2.2))))))
        else
          bif (x.2.1.1 == (0 : Int)) then
            some ((x.2.1.2.2.2.2 == (Int.negSucc 0)), (x.2.2.1, (x.2.2.2.1, (x.2.2.2.2.1, (x.2.2.2.2.2.1, (x.2.2.2.2.2.2.1, x.2.2.2.2.2.2.2))))))
          else
            bif (x.2.1.2.2.2.2 != (Int.negSucc 0)) then
              bif (Go.Proofs.Ytkeolcgggondnaa.VX.inb x.2.1.2.2.2.2 (List.length x.1)) then
                bif ((Go.Proofs.Ytkeolcgggondnaa.VX.getAt ((0 : Int), ((0 : Int), ((0 : Int), ((0 : Int), (0 : Int))))) x.1 (Go.Proofs.Ytkeolcgggondnaa.VX.toN x.2.1.2.2.2.2)).2.1 == (1 : Int)) then
                  bif (Go.Proofs.Ytkeolcgggondnaa.VX.inb x.2.1.2.2.2.2 (List.length x.1)) then
                    some (((Go.Proofs.Ytkeolcgggondnaa.VX.getAt ((0 : Int), ((0 : Int), ((0 : Int), ((0 : Int), (0 : Int))))) x.1 (Go.Proofs.Ytkeolcgggondnaa.VX.toN x.2.1.2.2.2.2)).2.2.1 == x.2.1.1), (x.2.2.1, (x.2.2.2.1, (x.2.2.2.2.1, (x.2.2.2.2.2.1, (x.2.2.2.2.2.2.1, x.2.2.2.2.2.2.2))))))
                  else
                    none
                else
                  some (false, (x.2.2.1, (x.2.2.2.1, (x.2.2.2.2.1, (x.2.2.2.2.2.1, (x.2.2.2.2.2.2.1, x.2.2.2.2.2.2.2))))))
              else
                none
            else
              some (false, (x.2.2.1, (x.2.2.2.1, (x.2.2.2.2.1, (x.2.2.2.2.2.1, (x.2.2.2.2.2.2.1, x.2.2.2.2.2.2.2))))))
  else
    none
noncomputable def cx_trace_judge_begins : Ctx := { tb := mkTb T2.tbl, fx := [], sum := [], nt := 54, pin := 7, nr := true, ys := [] }
theorem F_trace_judge_begins_ok : Sound Try.prog 79 (Spec.shp si_trace_judge_begins so_trace_judge_begins F_trace_judge_begins) :=
  Sound.shp (C := cx_trace_judge_begins) (fn := Try.f79) (by kernel_rfl) (c := bodyOf Try.f79) (by kernel_rfl) (by decide) (ctxOK mixed tbl_ok rfl trivial trivial) (SumOK.of trivial) (by kernel_rfl) si_trace_judge_begins so_trace_judge_begins rfl (by decide) (by decide) rfl (by decide) rfl F_trace_judge_begins (fun x => by kernel_rfl)
abbrev si_trace_judge_objs : Shape := { sl := [(0, (.ptr 0 [])), (1, (.hole (.int .i64)))], bl := [.var (.pr (.hole (.slice (.int .i64))) (.pr (.mp 1) (.pr (.hole (.arr 8 (.int .i64))) (.pr (.hole (.int .i64)) (.pr (.mp 2) (.pr (.mp 3) (.mp 4))))))), .mp (.pair (.int .i64) (.int .i64)) (.int .i64), .mp (.int .i64) (.int .i64), .mp (.int .i64) (.int .i64), .fm [1, 3, 5, 6, 7, 11, 12, 14, 15] (.cons (.fn 50 .nil (.cons (.ptr 5 []) .nil)) (.cons (.fn 51 .nil (.cons (.ptr 5 []) .nil)) (.cons (.fn 53 .nil (.cons (.ptr 5 []) .nil)) (.cons (.fn 54 .nil (.cons (.ptr 5 []) .nil)) (.cons (.fn 55 .nil (.cons (.ptr 5 []) .nil)) (.cons (.fn 56 .nil (.cons (.ptr 6 []) .nil)) (.cons (.fn 57 .nil (.cons (.ptr 6 []) .nil)) (.cons (.fn 58 .nil (.cons (.ptr 5 []) .nil)) (.cons (.fn 59 .nil (.cons (.ptr 5 []) .nil)) .nil))))))))), .var (.ptr 0 []), .var (.fn 48 .nil (.cons (.ptr 5 []) .nil))], ts := [(.int .i64), (.slice (.int .i64)), (.arr 8 (.int .i64)), (.int .i64), (.slice (.pair (.pair (.int .i64) (.int .i64)) (.int .i64))), (.slice (.pair (.int .i64) (.int .i64))), (.slice (.pair (.int .i64) (.int .i64)))], pin := 0 }
abbrev so_trace_judge_objs : Shape := { sl := [(0, (.hole (.int .i64)))], bl := [.var (.pr (.hole (.slice (.int .i64))) (.pr (.mp 1) (.pr (.hole (.arr 8 (.int .i64))) (.pr (.hole (.int .i64)) (.pr (.mp 2) (.pr (.mp 3) (.mp 4))))))), .mp (.pair (.int .i64) (.int .i64)) (.int .i64), .mp (.int .i64) (.int .i64), .mp (.int .i64) (.int .i64), .fm [1, 3, 5, 6, 7, 11, 12, 14, 15] (.cons (.fn 50 .nil (.cons (.ptr 5 []) .nil)) (.cons (.fn 51 .nil (.cons (.ptr 5 []) .nil)) (.cons (.fn 53 .nil (.cons (.ptr 5 []) .nil)) (.cons (.fn 54 .nil (.cons (.ptr 5 []) .nil)) (.cons (.fn 55 .nil (.cons (.ptr 5 []) .nil)) (.cons (.fn 56 .nil (.cons (.ptr 6 []) .nil)) (.cons (.fn 57 .nil (.cons (.ptr 6 []) .nil)) (.cons (.fn 58 .nil (.cons (.ptr 5 []) .nil)) (.cons (.fn 59 .nil (.cons (.ptr 5 []) .nil)) .nil))))))))), .var (.ptr 0 []), .var (.fn 48 .nil (.cons (.ptr 5 []) .nil))], ts := [(.int .i64), (.slice (.int .i64)), (.arr 8 (.int .i64)), (.int .i64), (.slice (.pair (.pair (.int .i64) (.int .i64)) (.int .i64))), (.slice (.pair (.int .i64) (.int .i64))), (.slice (.pair (.int .i64) (.int .i64)))], pin := 7 }
noncomputable def F_trace_judge_objs (x : (Int × List (Int) × List (Int) × Int × List (((Int × Int) × Int)) × List ((Int × Int)) × List ((Int × Int)))) : Option (Int × List (Int) × List (Int) × Int × List (((Int × Int) × Int)) × List ((Int × Int)) × List ((Int × Int))) :=
  ((F_trace_in (x.1, ((2 : Int), (7 : Int))))).bind fun r13 =>
  bif r13 then
    some ((((List.length x.2.1) : Nat) : Int), (x.2.1, (x.2.2.1, (x.2.2.2.1, (x.2.2.2.2.1, (x.2.2.2.2.2.1, x.2.2.2.2.2.2))))))
  else
    ((F_trace_in (x.1, ((10 : Int), (15 : Int))))).bind fun r14 =>
    bif r14 then
      some ((2 : Int), (x.2.1, (x.2.2.1, (x.2.2.2.1, (x.2.2.2.2.1, (x.2.2.2.2.2.1, x.2.2.2.2.2.2))))))
    else
      ((F_trace_in (x.1, ((8 : Int), (17 : Int))))).bind fun r15 =>
      bif r15 then
        some ((4 : Int), (x.2.1, (x.2.2.1, (x.2.2.2.1, (x.2.2.2.2.1, (x.2.2.2.2.2.1, x.2.2.2.2.2.2))))))
      else
        some ((1 : Int), (x.2.1, (x.2.2.1, (x.2.2.2.1, (x.2.2.2.2.1, (x.2.2.2.2.2.1, x.2.2.2.2.2.2))))))
noncomputable def cx_trace_judge_objs : Ctx := { tb := mkTb T2.tbl, fx := [(32, [], Spec.shp si_trace_in so_trace_in F_trace_in)], sum := [], nt := 19, pin := 7, nr := true, ys := [] }
theorem F_trace_judge_objs_ok : Sound Try.prog 80 (Spec.shp si_trace_judge_objs so_trace_judge_objs F_trace_judge_objs) :=
  Sound.shp (C := cx_trace_judge_objs) (fn := Try.f80) (by kernel_rfl) (c := bodyOf Try.f80) (by kernel_rfl) (by decide) (ctxOK mixed tbl_ok rfl ⟨F_trace_in_ok, trivial⟩ trivial) (SumOK.of trivial) (by kernel_rfl) si_trace_judge_objs so_trace_judge_objs rfl (by decide) (by decide) rfl (by decide) rfl F_trace_judge_objs (fun x => by kernel_rfl)
abbrev si_trace_judge_began : Shape := { sl := [(0, (.ptr 0 [])), (1, (.hole (.slice (.pair (.int .i64) (.pair (.int .i64) (.pair (.int .i64) (.pair (.int .i64) (.int .i64)))))))), (2, (.hole (.pair (.int .i64) (.pair (.int .i64) (.pair (.int .i64) (.pair (.int .i64) (.int .i64)))))))], bl := [.var (.pr (.hole (.slice (.int .i64))) (.pr (.mp 1) (.pr (.hole (.arr 8 (.int .i64))) (.pr (.hole (.int .i64)) (.pr (.mp 2) (.pr (.mp 3) (.mp 4))))))), .mp (.pair (.int .i64) (.int .i64)) (.int .i64), .mp (.int .i64) (.int .i64), .mp (.int .i64) (.int .i64), .fm [1, 3, 5, 6, 7, 11, 12, 14, 15] (.cons (.fn 50 .nil (.cons (.ptr 5 []) .nil)) (.cons (.fn 51 .nil (.cons (.ptr 5 []) .nil)) (.cons (.fn 53 .nil (.cons (.ptr 5 []) .nil)) (.cons (.fn 54 .nil (.cons (.ptr 5 []) .nil)) (.cons (.fn 55 .nil (.cons (.ptr 5 []) .nil)) (.cons (.fn 56 .nil (.cons (.ptr 6 []) .nil)) (.cons (.fn 57 .nil (.cons (.ptr 6 []) .nil)) (.cons (.fn 58 .nil (.cons (.ptr 5 []) .nil)) (.cons (.fn 59 .nil (.cons (.ptr 5 []) .nil)) .nil))))))))), .var (.ptr 0 []), .var (.fn 48 .nil (.cons (.ptr 5 []) .nil))], ts := [(.slice (.pair (.int .i64) (.pair (.int .i64) (.pair (.int .i64) (.pair (.int .i64) (.int .i64)))))), (.pair (.int .i64) (.pair (.int .i64) (.pair (.int .i64) (.pair (.int .i64) (.int .i64))))), (.slice (.int .i64)), (.arr 8 (.int .i64)), (.int .i64), (.slice (.pair (.pair (.int .i64) (.int .i64)) (.int .i64))), (.slice (.pair (.int .i64) (.int .i64))), (.slice (.pair (.int .i64) (.int .i64)))], pin := 0 }
abbrev so_trace_judge_began : Shape := { sl := [(0, (.hole .bool))], bl := [.var (.pr (.hole (.slice (.int .i64))) (.pr (.mp 1) (.pr (.hole (.arr 8 (.int .i64))) (.pr (.hole (.int .i64)) (.pr (.mp 2) (.pr (.mp 3) (.mp 4))))))), .mp (.pair (.int .i64) (.int .i64)) (.int .i64), .mp (.int .i64) (.int .i64), .mp (.int .i64) (.int .i64), .fm [1, 3, 5, 6, 7, 11, 12, 14, 15] (.cons (.fn 50 .nil (.cons (.ptr 5 []) .nil)) (.cons (.fn 51 .nil (.cons (.ptr 5 []) .nil)) (.cons (.fn 53 .nil (.cons (.ptr 5 []) .nil)) (.cons (.fn 54 .nil (.cons (.ptr 5 []) .nil)) (.cons (.fn 55 .nil (.cons (.ptr 5 []) .nil)) (.cons (.fn 56 .nil (.cons (.ptr 6 []) .nil)) (.cons (.fn 57 .nil (.cons (.ptr 6 []) .nil)) (.cons (.fn 58 .nil (.cons (.ptr 5 []) .nil)) (.cons (.fn 59 .nil (.cons (.ptr 5 []) .nil)) .nil))))))))), .var (.ptr 0 []), .var (.fn 48 .nil (.cons (.ptr 5 []) .nil))], ts := [.bool, (.slice (.int .i64)), (.arr 8 (.int .i64)), (.int .i64), (.slice (.pair (.pair (.int .i64) (.int .i64)) (.int .i64))), (.slice (.pair (.int .i64) (.int .i64))), (.slice (.pair (.int .i64) (.int .i64)))], pin := 7 }
noncomputable def F_trace_judge_began (x : (List ((Int × (Int × (Int × (Int × Int))))) × (Int × (Int × (Int × (Int × Int)))) × List (Int) × List (Int) × Int × List (((Int × Int) × Int)) × List ((Int × Int)) × List ((Int × Int)))) : Option (Bool × List (Int) × List (Int) × Int × List (((Int × Int) × Int)) × List ((Int × Int)) × List ((Int × Int))) :=
  bif (Bool.not (@Go.Proofs.Ytkeolcgggondnaa.VX.mhas (Int) (Int) (Go.Proofs.Ytkeolcgggondnaa.VX.Ty.beq (.int .i64)) x.2.1.2.1 x.2.2.2.2.2.2.2)) then
    some ((x.2.1.2.2.2.2 == (Int.negSucc 0)), (x.2.2.1, (x.2.2.2.1, (x.2.2.2.2.1, (x.2.2.2.2.2.1, (x.2.2.2.2.2.2.1, x.2.2.2.2.2.2.2))))))
  else
    bif (x.2.1.2.2.2.2 == (Int.negSucc 0)) then
      some (false, (x.2.2.1, (x.2.2.2.1, (x.2.2.2.2.1, (x.2.2.2.2.2.1, (x.2.2.2.2.2.2.1, x.2.2.2.2.2.2.2))))))
    else
      bif (Go.Proofs.Ytkeolcgggondnaa.VX.inb x.2.1.1 8) then
        bif (x.2.1.2.2.2.2 != (Go.IntKind.wrap Go.IntKind.i64 ((Go.Proofs.Ytkeolcgggondnaa.VX.getAt (0 : Int) x.2.2.2.1 (Go.Proofs.Ytkeolcgggondnaa.VX.toN x.2.1.1)) - (1 : Int)))) then
          some (false, (x.2.2.1, (x.2.2.2.1, (x.2.2.2.2.1, (x.2.2.2.2.2.1, (x.2.2.2.2.2.2.1, x.2.2.2.2.2.2.2))))))
        else
          bif (Go.Proofs.Ytkeolcgggondnaa.VX.inb x.2.1.2.2.2.2 (List.length x.1)) then
            bif ((Go.Proofs.Ytkeolcgggondnaa.VX.getAt ((0 : Int), ((0 : Int), ((0 : Int), ((0 : Int), (0 : Int))))) x.1 (Go.Proofs.Ytkeolcgggondnaa.VX.toN x.2.1.2.2.2.2)).2.1 == (@Go.Proofs.Ytkeolcgggondnaa.VX.mlook (Int) (Int) (Go.Proofs.Ytkeolcgggondnaa.VX.Ty.beq (.int .i64)) (Go.Proofs.Ytkeolcgggondnaa.VX.Ty.zero (.int .i64)) x.2.1.2.1 x.2.2.2.2.2.2.2)) then
              bif ((Go.Proofs.Ytkeolcgggondnaa.VX.getAt ((0 : Int), ((0 : Int), ((0 : Int), ((0 : Int), (0 : Int))))) x.1 (Go.Proofs.Ytkeolcgggondnaa.VX.toN x.2.1.2.2.2.2)).2.2.1 == x.2.1.2.2.1) then
                some (true, (x.2.2.1, (x.2.2.2.1, (x.2.2.2.2.1, (x.2.2.2.2.2.1, (x.2.2.2.2.2.2.1, x.2.2.2.2.2.2.2))))))
              else
                bif ((Go.Proofs.Ytkeolcgggondnaa.VX.getAt ((0 : Int), ((0 : Int), ((0 : Int), ((0 : Int), (0 : Int))))) x.1 (Go.Proofs.Ytkeolcgggondnaa.VX.toN x.2.1.2.2.2.2)).2.1 == (8 : Int)) then
                  some ((decide (x.2.1.2.1 ≤ (6 : Int))), (x.2.2.1, (x.2.2.2.1, (x.2.2.2.2.1, (x.2.2.2.2.2.1, (x.2.2.2.2.2.2.1, x.2.2.2.2.2.2.2))))))
                else
                  some (false, (x.2.2.1, (x.2.2.2.1, (x.2.2.2.2.1, (x.2.2.2.2.2.1, (x.2.2.2.2.2.2.1, x.2.2.2.2.2.2.2))))))
            else
              bif ((Go.Proofs.Ytkeolcgggondnaa.VX.getAt ((0 : Int), ((0 : Int), ((0 : Int), ((0 : Int), (0 : Int))))) x.1 (Go.Proofs.Ytkeolcgggondnaa.VX.toN x.2.1.2.2.2.2)).2.1 == (8 : Int)) then
                some ((decide (x.2.1.2.1 ≤ (6 : Int))), (x.2.2.1, (x.2.2.2.1, (x.2.2.2.2.1, (x.2.2.2.2.2.1, (x.2.2.2.2.2.2.1, x.2.2.2.2.2.2.2))))))
              else
                some (false, (x.2.2.1, (x.2.2.2.1, (x.2.2.2.2.1, (x.2.2.2.2.2.1, (x.2.2.2.2.2.2.1, x.2.2.2.2.2.2.2))))))
          else
            none
      else
        none
noncomputable def cx_trace_judge_began : Ctx := { tb := mkTb T2.tbl, fx := [], sum := [], nt := 67, pin := 7, nr := true, ys := [] }
theorem F_trace_judge_began_ok : Sound Try.prog 81 (Spec.shp si_trace_judge_began so_trace_judge_began F_trace_judge_began) :=
  Sound.shp (C := cx_trace_judge_began) (fn := Try.f81) (by kernel_rfl) (c := bodyOf Try.f81) (by kernel_rfl) (by decide) (ctxOK mixed tbl_ok rfl trivial trivial) (SumOK.of trivial) (by kernel_rfl) si_trace_judge_began so_trace_judge_began rfl (by decide) (by decide) rfl (by decide) rfl F_trace_judge_began (fun x => by kernel_rfl)
abbrev si_trace_judge_rules_2 : Shape := { sl := [(0, (.hole (.pair (.int .i64) (.pair (.int .i64) (.pair (.int .i64) (.pair (.int .i64) (.int .i64))))))), (1, (.ptr 0 []))], bl := [.var (.ptr 1 []), .var (.pr (.hole (.slice (.int .i64))) (.pr (.mp 2) (.pr (.hole (.arr 8 (.int .i64))) (.pr (.hole (.int .i64)) (.pr (.mp 3) (.pr (.mp 4) (.mp 5))))))), .mp (.pair (.int .i64) (.int .i64)) (.int .i64), .mp (.int .i64) (.int .i64), .mp (.int .i64) (.int .i64), .fm [1, 3, 5, 6, 7, 11, 12, 14, 15] (.cons (.fn 50 .nil (.cons (.ptr 0 []) .nil)) (.cons (.fn 51 .nil (.cons (.ptr 0 []) .nil)) (.cons (.fn 53 .nil (.cons (.ptr 0 []) .nil)) (.cons (.fn 54 .nil (.cons (.ptr 0 []) .nil)) (.cons (.fn 55 .nil (.cons (.ptr 0 []) .nil)) (.cons (.fn 56 .nil (.cons (.ptr 6 []) .nil)) (.cons (.fn 57 .nil (.cons (.ptr 6 []) .nil)) (.cons (.fn 58 .nil (.cons (.ptr 0 []) .nil)) (.cons (.fn 59 .nil (.cons (.ptr 0 []) .nil)) .nil))))))))), .var (.fn 48 .nil (.cons (.ptr 0 []) .nil))], ts := [(.pair (.int .i64) (.pair (.int .i64) (.pair (.int .i64) (.pair (.int .i64) (.int .i64))))), (.slice (.int .i64)), (.arr 8 (.int .i64)), (.int .i64), (.slice (.pair (.pair (.int .i64) (.int .i64)) (.int .i64))), (.slice (.pair (.int .i64) (.int .i64))), (.slice (.pair (.int .i64) (.int .i64)))], pin := 0 }
abbrev so_trace_judge_rules_2 : Shape := { sl := [(0, (.hole .bool))], bl := [.var (.ptr 1 []), .var (.pr (.hole (.slice (.int .i64))) (.pr (.mp 2) (.pr (.hole (.arr 8 (.int .i64))) (.pr (.hole (.int .i64)) (.pr (.mp 3) (.pr (.mp 4) (.mp 5))))))), .mp (.pair (.int .i64) (.int .i64)) (.int .i64), .mp (.int .i64) (.int .i64), .mp (.int .i64) (.int .i64), .fm [1, 3, 5, 6, 7, 11, 12, 14, 15] (.cons (.fn 50 .nil (.cons (.ptr 0 []) .nil)) (.cons (.fn 51 .nil (.cons (.ptr 0 []) .nil)) (.cons (.fn 53 .nil (.cons (.ptr 0 []) .nil)) (.cons (.fn 54 .nil (.cons (.ptr 0 []) .nil)) (.cons (.fn 55 .nil (.cons (.ptr 0 []) .nil)) (.cons (.fn 56 .nil (.cons (.ptr 6 []) .nil)) (.cons (.fn 57 .nil (.cons (.ptr 6 []) .nil)) (.cons (.fn 58 .nil (.cons (.ptr 0 []) .nil)) (.cons (.fn 59 .nil (.cons (.ptr 0 []) .nil)) .nil))))))))), .var (.fn 48 .nil (.cons (.ptr 0 []) .nil))], ts := [.bool, (.slice (.int .i64)), (.arr 8 (.int .i64)), (.int .i64), (.slice (.pair (.pair (.int .i64) (.int .i64)) (.int .i64))), (.slice (.pair (.int .i64) (.int .i64))), (.slice (.pair (.int .i64) (.int .i64)))], pin := 7 }
noncomputable def F_trace_judge_rules_2 (x : ((Int × (Int × (Int × (Int × Int)))) × List (Int) × List (Int) × Int × List (((Int × Int) × Int)) × List ((Int × Int)) × List ((Int × Int)))) : Option (Bool × List (Int) × List (Int) × Int × List (((Int × Int) × Int)) × List ((Int × Int)) × List ((Int × Int))) :=
  some ((x.1.2.2.1 == x.2.2.2.1), (x.2.1, (x.2.2.1, (x.2.2.2.1, (x.2.2.2.2.1, (x.2.2.2.2.2.1, x.2.2.2.2.2.2))))))
noncomputable def cx_trace_judge_rules_2 : Ctx := { tb := mkTb T2.tbl, fx := [], sum := [], nt := 11, pin := 7, nr := true, ys := [] }
theorem F_trace_judge_rules_2_ok : Sound Try.prog 50 (Spec.shp si_trace_judge_rules_2 so_trace_judge_rules_2 F_trace_judge_rules_2) :=
  Sound.shp (C := cx_trace_judge_rules_2) (fn := Try.f50) (by kernel_rfl) (c := bodyOf Try.f50) (by kernel_rfl) (by decide) (ctxOK mixed tbl_ok rfl trivial trivial) (SumOK.of trivial) (by kernel_rfl) si_trace_judge_rules_2 so_trace_judge_rules_2 rfl (by decide) (by decide) rfl (by decide) rfl F_trace_judge_rules_2 (fun x => by kernel_rfl)
theorem F_trace_judge_rules_2_rd : Sound Try.prog 50 (Spec.shpR si_trace_judge_rules_2 so_trace_judge_rules_2 F_trace_judge_rules_2) :=
  Sound.shpR (fun x y h => by have h := Option.some.inj h; subst h; rfl) F_trace_judge_rules_2_ok
abbrev si_trace_judge_open : Shape := { sl := [(0, (.ptr 0 [])), (1, (.hole (.pair (.int .i64) (.pair (.int .i64) (.pair (.int .i64) (.pair (.int .i64) (.int .i64)))))))], bl := [.var (.pr (.hole (.slice (.int .i64))) (.pr (.mp 1) (.pr (.hole (.arr 8 (.int .i64))) (.pr (.hole (.int .i64)) (.pr (.mp 2) (.pr (.mp 3) (.mp 4))))))), .mp (.pair (.int .i64) (.int .i64)) (.int .i64), .mp (.int .i64) (.int .i64), .mp (.int .i64) (.int .i64), .fm [1, 3, 5, 6, 7, 11, 12, 14, 15] (.cons (.fn 50 .nil (.cons (.ptr 5 []) .nil)) (.cons (.fn 51 .nil (.cons (.ptr 5 []) .nil)) (.cons (.fn 53 .nil (.cons (.ptr 5 []) .nil)) (.cons (.fn 54 .nil (.cons (.ptr 5 []) .nil)) (.cons (.fn 55 .nil (.cons (.ptr 5 []) .nil)) (.cons (.fn 56 .nil (.cons (.ptr 6 []) .nil)) (.cons (.fn 57 .nil (.cons (.ptr 6 []) .nil)) (.cons (.fn 58 .nil (.cons (.ptr 5 []) .nil)) (.cons (.fn 59 .nil (.cons (.ptr 5 []) .nil)) .nil))))))))), .var (.ptr 0 []), .var (.fn 48 .nil (.cons (.ptr 5 []) .nil))], ts := [(.pair (.int .i64) (.pair (.int .i64) (.pair (.int .i64) (.pair (.int .i64) (.int .i64))))), (.slice (.int .i64)), (.arr 8 (.int .i64)), (.int .i64), (.slice (.pair (.pair (.int .i64) (.int .i64)) (.int .i64))), (.slice (.pair (.int .i64) (.int .i64))), (.slice (.pair (.int .i64) (.int .i64)))], pin := 0 }
abbrev so_trace_judge_open : Shape := { sl := [(0, (.hole .bool))], bl := [.var (.pr (.hole (.slice (.int .i64))) (.pr (.mp 1) (.pr (.hole (.arr 8 (.int .i64))) (.pr (.hole (.int .i64)) (.pr (.mp 2) (.pr (.mp 3) (.mp 4))))))), .mp (.pair (.int .i64) (.int .i64)) (.int .i64), .mp (.int .i64) (.int .i64), .mp (.int .i64) (.int .i64), .fm [1, 3, 5, 6, 7, 11, 12, 14, 15] (.cons (.fn 50 .nil (.cons (.ptr 5 []) .nil)) (.cons (.fn 51 .nil (.cons (.ptr 5 []) .nil)) (.cons (.fn 53 .nil (.cons (.ptr 5 []) .nil)) (.cons (.fn 54 .nil (.cons (.ptr 5 []) .nil)) (.cons (.fn 55 .nil (.cons (.ptr 5 []) .nil)) (.cons (.fn 56 .nil (.cons (.ptr 6 []) .nil)) (.cons (.fn 57 .nil (.cons (.ptr 6 []) .nil)) (.cons (.fn 58 .nil (.cons (.ptr 5 []) .nil)) (.cons (.fn 59 .nil (.cons (.ptr 5 []) .nil)) .nil))))))))), .var (.ptr 0 []), .var (.fn 48 .nil (.cons (.ptr 5 []) .nil))], ts := [.bool, (.slice (.int .i64)), (.arr 8 (.int .i64)), (.int .i64), (.slice (.pair (.pair (.int .i64) (.int .i64)) (.int .i64))), (.slice (.pair (.int .i64) (.int .i64))), (.slice (.pair (.int .i64) (.int .i64)))], pin := 7 }
noncomputable def F_trace_judge_open (x : ((Int × (Int × (Int × (Int × Int)))) × List (Int) × List (Int) × Int × List (((Int × Int) × Int)) × List ((Int × Int)) × List ((Int × Int)))) : Option (Bool × List (Int) × List (Int) × Int × List (((Int × Int) × Int)) × List ((Int × Int)) × List ((Int × Int))) :=
  bif (Go.Proofs.Ytkeolcgggondnaa.VX.inb x.1.2.2.1 (List.length x.2.1)) then
    some ((decide ((Go.Proofs.Ytkeolcgggondnaa.VX.getAt (0 : Int) x.2.1 (Go.Proofs.Ytkeolcgggondnaa.VX.toN x.1.2.2.1)) ≥ (0 : Int))), (x.2.1, (x.2.2.1, (x.2.2.2.1, (x.2.2.2.2.1, (x.2.2.2.2.2.1, x.2.2.2.2.2.2))))))
  else
    none
noncomputable def cx_trace_judge_open : Ctx := { tb := mkTb T2.tbl, fx := [], sum := [], nt := 14, pin := 7, nr := true, ys := [] }
theorem F_trace_judge_open_ok : Sound Try.prog 52 (Spec.shp si_trace_judge_open so_trace_judge_open F_trace_judge_open) :=
  Sound.shp (C := cx_trace_judge_open) (fn := Try.f52) (by kernel_rfl) (c := bodyOf Try.f52) (by kernel_rfl) (by decide) (ctxOK mixed tbl_ok rfl trivial trivial) (SumOK.of trivial) (by kernel_rfl) si_trace_judge_open so_trace_judge_open rfl (by decide) (by decide) rfl (by decide) rfl F_trace_judge_open (fun x => by kernel_rfl)
abbrev si_trace_judge_n : Shape := { sl := [(0, (.ptr 0 [])), (1, (.hole (.int .i64))), (2, (.hole (.pair (.int .i64) (.pair (.int .i64) (.pair (.int .i64) (.pair (.int .i64) (.int .i64)))))))], bl := [.var (.pr (.hole (.slice (.int .i64))) (.pr (.mp 1) (.pr (.hole (.arr 8 (.int .i64))) (.pr (.hole (.int .i64)) (.pr (.mp 2) (.pr (.mp 3) (.mp 4))))))), .mp (.pair (.int .i64) (.int .i64)) (.int .i64), .mp (.int .i64) (.int .i64), .mp (.int .i64) (.int .i64), .fm [1, 3, 5, 6, 7, 11, 12, 14, 15] (.cons (.fn 50 .nil (.cons (.ptr 5 []) .nil)) (.cons (.fn 51 .nil (.cons (.ptr 5 []) .nil)) (.cons (.fn 53 .nil (.cons (.ptr 5 []) .nil)) (.cons (.fn 54 .nil (.cons (.ptr 5 []) .nil)) (.cons (.fn 55 .nil (.cons (.ptr 5 []) .nil)) (.cons (.fn 56 .nil (.cons (.ptr 6 []) .nil)) (.cons (.fn 57 .nil (.cons (.ptr 6 []) .nil)) (.cons (.fn 58 .nil (.cons (.ptr 5 []) .nil)) (.cons (.fn 59 .nil (.cons (.ptr 5 []) .nil)) .nil))))))))), .var (.ptr 0 []), .var (.fn 48 .nil (.cons (.ptr 5 []) .nil))], ts := [(.int .i64), (.pair (.int .i64) (.pair (.int .i64) (.pair (.int .i64) (.pair (.int .i64) (.int .i64))))), (.slice (.int .i64)), (.arr 8 (.int .i64)), (.int .i64), (.slice (.pair (.pair (.int .i64) (.int .i64)) (.int .i64))), (.slice (.pair (.int .i64) (.int .i64))), (.slice (.pair (.int .i64) (.int .i64)))], pin := 0 }
abbrev so_trace_judge_n : Shape := { sl := [(0, (.hole (.int .i64)))], bl := [.var (.pr (.hole (.slice (.int .i64))) (.pr (.mp 1) (.pr (.hole (.arr 8 (.int .i64))) (.pr (.hole (.int .i64)) (.pr (.mp 2) (.pr (.mp 3) (.mp 4))))))), .mp (.pair (.int .i64) (.int .i64)) (.int .i64), .mp (.int .i64) (.int .i64), .mp (.int .i64) (.int .i64), .fm [1, 3, 5, 6, 7, 11, 12, 14, 15] (.cons (.fn 50 .nil (.cons (.ptr 5 []) .nil)) (.cons (.fn 51 .nil (.cons (.ptr 5 []) .nil)) (.cons (.fn 53 .nil (.cons (.ptr 5 []) .nil)) (.cons (.fn 54 .nil (.cons (.ptr 5 []) .nil)) (.cons (.fn 55 .nil (.cons (.ptr 5 []) .nil)) (.cons (.fn 56 .nil (.cons (.ptr 6 []) .nil)) (.cons (.fn 57 .nil (.cons (.ptr 6 []) .nil)) (.cons (.fn 58 .nil (.cons (.ptr 5 []) .nil)) (.cons (.fn 59 .nil (.cons (.ptr 5 []) .nil)) .nil))))))))), .var (.ptr 0 []), .var (.fn 48 .nil (.cons (.ptr 5 []) .nil))], ts := [(.int .i64), (.slice (.int .i64)), (.arr 8 (.int .i64)), (.int .i64), (.slice (.pair (.pair (.int .i64) (.int .i64)) (.int .i64))), (.slice (.pair (.int .i64) (.int .i64))), (.slice (.pair (.int .i64) (.int .i64)))], pin := 7 }
noncomputable def F_trace_judge_n (x : (Int × (Int × (Int × (Int × (Int × Int)))) × List (Int) × List (Int) × Int × List (((Int × Int) × Int)) × List ((Int × Int)) × List ((Int × Int)))) : Option (Int × List (Int) × List (Int) × Int × List (((Int × Int) × Int)) × List ((Int × Int)) × List ((Int × Int))) :=
  some ((@Go.Proofs.Ytkeolcgggondnaa.VX.mlook ((Int × Int)) (Int) (Go.Proofs.Ytkeolcgggondnaa.VX.Ty.beq (.pair (.int .i64) (.int .i64))) (Go.Proofs.Ytkeolcgggondnaa.VX.Ty.zero (.int .i64)) (x.1, x.2.1.2.2.1) x.2.2.2.2.2.1), (x.2.2.1, (x.2.2.2.1, (x.2.2.2.2.1, (x.2.2.2.2.2.1, (x.2.2.2.2.2.2.1, x.2.2.2.2.2.2.2))))))
noncomputable def cx_trace_judge_n : Ctx := { tb := mkTb T2.tbl, fx := [], sum := [], nt := 16, pin := 7, nr := true, ys := [] }
theorem F_trace_judge_n_ok : Sound Try.prog 49 (Spec.shp si_trace_judge_n so_trace_judge_n F_trace_judge_n) :=
  Sound.shp (C := cx_trace_judge_n) (fn := Try.f49) (by kernel_rfl) (c := bodyOf Try.f49) (by kernel_rfl) (by decide) (ctxOK mixed tbl_ok rfl trivial trivial) (SumOK.of trivial) (by kernel_rfl) si_trace_judge_n so_trace_judge_n rfl (by decide) (by decide) rfl (by decide) rfl F_trace_judge_n (fun x => by kernel_rfl)
theorem F_trace_judge_n_rd : Sound Try.prog 49 (Spec.shpR si_trace_judge_n so_trace_judge_n F_trace_judge_n) :=
  Sound.shpR (fun x y h => by have h := Option.some.inj h; subst h; rfl) F_trace_judge_n_ok
abbrev si_trace_judge_rules_3 : Shape := { sl := [(0, (.hole (.pair (.int .i64) (.pair (.int .i64) (.pair (.int .i64) (.pair (.int .i64) (.int .i64))))))), (1, (.ptr 0 []))], bl := [.var (.ptr 1 []), .var (.pr (.hole (.slice (.int .i64))) (.pr (.mp 2) (.pr (.hole (.arr 8 (.int .i64))) (.pr (.hole (.int .i64)) (.pr (.mp 3) (.pr (.mp 4) (.mp 5))))))), .mp (.pair (.int .i64) (.int .i64)) (.int .i64), .mp (.int .i64) (.int .i64), .mp (.int .i64) (.int .i64), .fm [1, 3, 5, 6, 7, 11, 12, 14, 15] (.cons (.fn 50 .nil (.cons (.ptr 0 []) .nil)) (.cons (.fn 51 .nil (.cons (.ptr 0 []) .nil)) (.cons (.fn 53 .nil (.cons (.ptr 0 []) .nil)) (.cons (.fn 54 .nil (.cons (.ptr 0 []) .nil)) (.cons (.fn 55 .nil (.cons (.ptr 0 []) .nil)) (.cons (.fn 56 .nil (.cons (.ptr 6 []) .nil)) (.cons (.fn 57 .nil (.cons (.ptr 6 []) .nil)) (.cons (.fn 58 .nil (.cons (.ptr 0 []) .nil)) (.cons (.fn 59 .nil (.cons (.ptr 0 []) .nil)) .nil))))))))), .var (.fn 48 .nil (.cons (.ptr 0 []) .nil))], ts := [(.pair (.int .i64) (.pair (.int .i64) (.pair (.int .i64) (.pair (.int .i64) (.int .i64))))), (.slice (.int .i64)), (.arr 8 (.int .i64)), (.int .i64), (.slice (.pair (.pair (.int .i64) (.int .i64)) (.int .i64))), (.slice (.pair (.int .i64) (.int .i64))), (.slice (.pair (.int .i64) (.int .i64)))], pin := 0 }
abbrev so_trace_judge_rules_3 : Shape := { sl := [(0, (.hole .bool))], bl := [.var (.ptr 1 []), .var (.pr (.hole (.slice (.int .i64))) (.pr (.mp 2) (.pr (.hole (.arr 8 (.int .i64))) (.pr (.hole (.int .i64)) (.pr (.mp 3) (.pr (.mp 4) (.mp 5))))))), .mp (.pair (.int .i64) (.int .i64)) (.int .i64), .mp (.int .i64) (.int .i64), .mp (.int .i64) (.int .i64), .fm [1, 3, 5, 6, 7, 11, 12, 14, 15] (.cons (.fn 50 .nil (.cons (.ptr 0 []) .nil)) (.cons (.fn 51 .nil (.cons (.ptr 0 []) .nil)) (.cons (.fn 53 .nil (.cons (.ptr 0 []) .nil)) (.cons (.fn 54 .nil (.cons (.ptr 0 []) .nil)) (.cons (.fn 55 .nil (.cons (.ptr 0 []) .nil)) (.cons (.fn 56 .nil (.cons (.ptr 6 []) .nil)) (.cons (.fn 57 .nil (.cons (.ptr 6 []) .nil)) (.cons (.fn 58 .nil (.cons (.ptr 0 []) .nil)) (.cons (.fn 59 .nil (.cons (.ptr 0 []) .nil)) .nil))))))))), .var (.fn 48 .nil (.cons (.ptr 0 []) .nil))], ts := [.bool, (.slice (.int .i64)), (.arr 8 (.int .i64)), (.int .i64), (.slice (.pair (.pair (.int .i64) (.int .i64)) (.int .i64))), (.slice (.pair (.int .i64) (.int .i64))), (.slice (.pair (.int .i64) (.int .i64)))], pin := 7 }
noncomputable def F_trace_judge_rules_3 (x : ((Int × (Int × (Int × (Int × Int)))) × List (Int) × List (Int) × Int × List (((Int × Int) × Int)) × List ((Int × Int)) × List ((Int × Int)))) : Option (Bool × List (Int) × List (Int) × Int × List (((Int × Int) × Int)) × List ((Int × Int)) × List ((Int × Int))) :=
  ((F_trace_judge_open (x.1, (x.2.1, (x.2.2.1, (x.2.2.2.1, (x.2.2.2.2.1, (x.2.2.2.2.2.1, x.2.2.2.2.2.2)))))))).bind fun r16 =>
  bif r16.1 then
    ((F_trace_judge_n ((7 : Int), (x.1, (r16.2.1, (r16.2.2.1, (r16.2.2.2.1, (r16.2.2.2.2.1, (r16.2.2.2.2.2.1, r16.2.2.2.2.2.2))))))))).bind fun r17 =>
    bif (r17.1 == (0 : Int)) then
      ((F_trace_judge_n ((3 : Int), (x.1, (r16.2.1, (r16.2.2.1, (r16.2.2.2.1, (r16.2.2.2.2.1, (r16.2.2.2.2.2.1, r16.2.2.2.2.2.2))))))))).bind fun r18 =>
      bif (x.1.2.2.2.1 == r18.1) then
        ((F_trace_judge_n ((5 : Int), (x.1, (r16.2.1, (r16.2.2.1, (r16.2.2.2.1, (r16.2.2.2.2.1, (r16.2.2.2.2.2.1, r16.2.2.2.2.2.2))))))))).bind fun r19 =>
        bif (Go.Proofs.Ytkeolcgggondnaa.VX.inb x.1.2.2.1 (List.length r16.2.1)) then
          some ((decide (x.1.2.2.2.1 ≤ (Go.IntKind.wrap Go.IntKind.i64 (r19.1 + (Go.Proofs.Ytkeolcgggondnaa.VX.getAt (0 : Int) r16.2.1 (Go.Proofs.Ytkeolcgggondnaa.VX.toN x.1.2.2.1)))))), (r16.2.1, (r16.2.2.1, (r16.2.2.2.1, (r16.2.2.2.2.1, (r16.2.2.2.2.2.1, r16.2.2.2.2.2.2))))))
        else
          none
      else
        some (false, (r16.2.1, (r16.2.2.1, (r16.2.2.2.1, (r16.2.2.2.2.1, (r16.2.2.2.2.2.1, r16.2.2.2.2.2.2))))))
    else
      some (false, (r16.2.1, (r16.2.2.1, (r16.2.2.2.1, (r16.2.2.2.2.1, (r16.2.2.2.2.2.1, r16.2.2.2.2.2.2))))))
  else
    some (false, (r16.2.1, (r16.2.2.1, (r16.2.2.2.1, (r16.2.2.2.2.1, (r16.2.2.2.2.2.1, r16.2.2.2.2.2.2))))))
noncomputable def cx_trace_judge_rules_3 : Ctx := { tb := mkTb T2.tbl, fx := [(52, [], Spec.thin (Spec.shp si_trace_judge_open so_trace_judge_open F_trace_judge_open)), (49, [], Spec.shpR si_trace_judge_n so_trace_judge_n F_trace_judge_n)], sum := [], nt := 38, pin := 7, nr := true, ys := [] }
theorem F_trace_judge_rules_3_ok : Sound Try.prog 51 (Spec.shp si_trace_judge_rules_3 so_trace_judge_rules_3 F_trace_judge_rules_3) :=
  Sound.shp (C := cx_trace_judge_rules_3) (fn := Try.f51) (by kernel_rfl) (c := bodyOf Try.f51) (by kernel_rfl) (by decide) (ctxOK mixed tbl_ok rfl ⟨F_trace_judge_open_ok.thin, F_trace_judge_n_rd, trivial⟩ trivial) (SumOK.of trivial) (by kernel_rfl) si_trace_judge_rules_3 so_trace_judge_rules_3 rfl (by decide) (by decide) rfl (by decide) rfl F_trace_judge_rules_3 (fun x => by kernel_rfl)
abbrev si_trace_judge_rules_4 : Shape := { sl := [(0, (.hole (.pair (.int .i64) (.pair (.int .i64) (.pair (.int .i64) (.pair (.int .i64) (.int .i64))))))), (1, (.ptr 0 []))], bl := [.var (.ptr 1 []), .var (.pr (.hole (.slice (.int .i64))) (.pr (.mp 2) (.pr (.hole (.arr 8 (.int .i64))) (.pr (.hole (.int .i64)) (.pr (.mp 3) (.pr (.mp 4) (.mp 5))))))), .mp (.pair (.int .i64) (.int .i64)) (.int .i64), .mp (.int .i64) (.int .i64), .mp (.int .i64) (.int .i64), .fm [1, 3, 5, 6, 7, 11, 12, 14, 15] (.cons (.fn 50 .nil (.cons (.ptr 0 []) .nil)) (.cons (.fn 51 .nil (.cons (.ptr 0 []) .nil)) (.cons (.fn 53 .nil (.cons (.ptr 0 []) .nil)) (.cons (.fn 54 .nil (.cons (.ptr 0 []) .nil)) (.cons (.fn 55 .nil (.cons (.ptr 0 []) .nil)) (.cons (.fn 56 .nil (.cons (.ptr 6 []) .nil)) (.cons (.fn 57 .nil (.cons (.ptr 6 []) .nil)) (.cons (.fn 58 .nil (.cons (.ptr 0 []) .nil)) (.cons (.fn 59 .nil (.cons (.ptr 0 []) .nil)) .nil))))))))), .var (.fn 48 .nil (.cons (.ptr 0 []) .nil))], ts := [(.pair (.int .i64) (.pair (.int .i64) (.pair (.int .i64) (.pair (.int .i64) (.int .i64))))), (.slice (.int .i64)), (.arr 8 (.int .i64)), (.int .i64), (.slice (.pair (.pair (.int .i64) (.int .i64)) (.int .i64))), (.slice (.pair (.int .i64) (.int .i64))), (.slice (.pair (.int .i64) (.int .i64)))], pin := 0 }
abbrev so_trace_judge_rules_4 : Shape := { sl := [(0, (.hole .bool))], bl := [.var (.ptr 1 []), .var (.pr (.hole (.slice (.int .i64))) (.pr (.mp 2) (.pr (.hole (.arr 8 (.int .i64))) (.pr (.hole (.int .i64)) (.pr (.mp 3) (.pr (.mp 4) (.mp 5))))))), .mp (.pair (.int .i64) (.int .i64)) (.int .i64), .mp (.int .i64) (.int .i64), .mp (.int .i64) (.int .i64), .fm [1, 3, 5, 6, 7, 11, 12, 14, 15] (.cons (.fn 50 .nil (.cons (.ptr 0 []) .nil)) (.cons (.fn 51 .nil (.cons (.ptr 0 []) .nil)) (.cons (.fn 53 .nil (.cons (.ptr 0 []) .nil)) (.cons (.fn 54 .nil (.cons (.ptr 0 []) .nil)) (.cons (.fn 55 .nil (.cons (.ptr 0 []) .nil)) (.cons (.fn 56 .nil (.cons (.ptr 6 []) .nil)) (.cons (.fn 57 .nil (.cons (.ptr 6 []) .nil)) (.cons (.fn 58 .nil (.cons (.ptr 0 []) .nil)) (.cons (.fn 59 .nil (.cons (.ptr 0 []) .nil)) .nil))))))))), .var (.fn 48 .nil (.cons (.ptr 0 []) .nil))], ts := [.bool, (.slice (.int .i64)), (.arr 8 (.int .i64)), (.int .i64), (.slice (.pair (.pair (.int .i64) (.int .i64)) (.int .i64))), (.slice (.pair (.int .i64) (.int .i64))), (.slice (.pair (.int .i64) (.int .i64)))], pin := 7 }
noncomputable def F_trace_judge_rules_4 (x : ((Int × (Int × (Int × (Int × Int)))) × List (Int) × List (Int) × Int × List (((Int × Int) × Int)) × List ((Int × Int)) × List ((Int × Int)))) : Option (Bool × List (Int) × List (Int) × Int × List (((Int × Int) × Int)) × List ((Int × Int)) × List ((Int × Int))) :=
  ((F_trace_judge_open (x.1, (x.2.1, (x.2.2.1, (x.2.2.2.1, (x.2.2.2.2.1, (x.2.2.2.2.2.1, x.2.2.2.2.2.2)))))))).bind fun r16 =>
  bif r16.1 then
    ((F_trace_judge_n ((5 : Int), (x.1, (r16.2.1, (r16.2.2.1, (r16.2.2.2.1, (r16.2.2.2.2.1, (r16.2.2.2.2.2.1, r16.2.2.2.2.2.2))))))))).bind fun r17 =>
    bif (x.1.2.2.2.1 == r17.1) then
      ((F_trace_judge_n ((3 : Int), (x.1, (r16.2.1, (r16.2.2.1, (r16.2.2.2.1, (r16.2.2.2.2.1, (r16.2.2.2.2.2.1, r16.2.2.2.2.2.2))))))))).bind fun r18 =>
      some ((decide (x.1.2.2.2.1 ≤ r18.1)), (r16.2.1, (r16.2.2.1, (r16.2.2.2.1, (r16.2.2.2.2.1, (r16.2.2.2.2.2.1, r16.2.2.2.2.2.2))))))
    else
      some (false, (r16.2.1, (r16.2.2.1, (r16.2.2.2.1, (r16.2.2.2.2.1, (r16.2.2.2.2.2.1, r16.2.2.2.2.2.2))))))
  else
    some (false, (r16.2.1, (r16.2.2.1, (r16.2.2.2.1, (r16.2.2.2.2.1, (r16.2.2.2.2.2.1, r16.2.2.2.2.2.2))))))
noncomputable def cx_trace_judge_rules_4 : Ctx := { tb := mkTb T2.tbl, fx := [(52, [], Spec.thin (Spec.shp si_trace_judge_open so_trace_judge_open F_trace_judge_open)), (49, [], Spec.shpR si_trace_judge_n so_trace_judge_n F_trace_judge_n)], sum := [], nt := 23, pin := 7, nr := true, ys := [] }
theorem F_trace_judge_rules_4_ok : Sound Try.prog 53 (Spec.shp si_trace_judge_rules_4 so_trace_judge_rules_4 F_trace_judge_rules_4) :=
  Sound.shp (C := cx_trace_judge_rules_4) (fn := Try.f53) (by kernel_rfl) (c := bodyOf Try.f53) (by kernel_rfl) (by decide) (ctxOK mixed tbl_ok rfl ⟨F_trace_judge_open_ok.thin, F_trace_judge_n_rd, trivial⟩ trivial) (SumOK.of trivial) (by kernel_rfl) si_trace_judge_rules_4 so_trace_judge_rules_4 rfl (by decide) (by decide) rfl (by decide) rfl F_trace_judge_rules_4 (fun x => by kernel_rfl)
abbrev si_trace_judge_rules_5 : Shape := { sl := [(0, (.hole (.pair (.int .i64) (.pair (.int .i64) (.pair (.int .i64) (.pair (.int .i64) (.int .i64))))))), (1, (.ptr 0 []))], bl := [.var (.ptr 1 []), .var (.pr (.hole (.slice (.int .i64))) (.pr (.mp 2) (.pr (.hole (.arr 8 (.int .i64))) (.pr (.hole (.int .i64)) (.pr (.mp 3) (.pr (.mp 4) (.mp 5))))))), .mp (.pair (.int .i64) (.int .i64)) (.int .i64), .mp (.int .i64) (.int .i64), .mp (.int .i64) (.int .i64), .fm [1, 3, 5, 6, 7, 11, 12, 14, 15] (.cons (.fn 50 .nil (.cons (.ptr 0 []) .nil)) (.cons (.fn 51 .nil (.cons (.ptr 0 []) .nil)) (.cons (.fn 53 .nil (.cons (.ptr 0 []) .nil)) (.cons (.fn 54 .nil (.cons (.ptr 0 []) .nil)) (.cons (.fn 55 .nil (.cons (.ptr 0 []) .nil)) (.cons (.fn 56 .nil (.cons (.ptr 6 []) .nil)) (.cons (.fn 57 .nil (.cons (.ptr 6 []) .nil)) (.cons (.fn 58 .nil (.cons (.ptr 0 []) .nil)) (.cons (.fn 59 .nil (.cons (.ptr 0 []) .nil)) .nil))))))))), .var (.fn 48 .nil (.cons (.ptr 0 []) .nil))], ts := [(.pair (.int .i64) (.pair (.int .i64) (.pair (.int .i64) (.pair (.int .i64) (.int .i64))))), (.slice (.int .i64)), (.arr 8 (.int .i64)), (.int .i64), (.slice (.pair (.pair (.int .i64) (.int .i64)) (.int .i64))), (.slice (.pair (.int .i64) (.int .i64))), (.slice (.pair (.int .i64) (.int .i64)))], pin := 0 }
abbrev so_trace_judge_rules_5 : Shape := { sl := [(0, (.hole .bool))], bl := [.var (.ptr 1 []), .var (.pr (.hole (.slice (.int .i64))) (.pr (.mp 2) (.pr (.hole (.arr 8 (.int .i64))) (.pr (.hole (.int .i64)) (.pr (.mp 3) (.pr (.mp 4) (.mp 5))))))), .mp (.pair (.int .i64) (.int .i64)) (.int .i64), .mp (.int .i64) (.int .i64), .mp (.int .i64) (.int .i64), .fm [1, 3, 5, 6, 7, 11, 12, 14, 15] (.cons (.fn 50 .nil (.cons (.ptr 0 []) .nil)) (.cons (.fn 51 .nil (.cons (.ptr 0 []) .nil)) (.cons (.fn 53 .nil (.cons (.ptr 0 []) .nil)) (.cons (.fn 54 .nil (.cons (.ptr 0 []) .nil)) (.cons (.fn 55 .nil (.cons (.ptr 0 []) .nil)) (.cons (.fn 56 .nil (.cons (.ptr 6 []) .nil)) (.cons (.fn 57 .nil (.cons (.ptr 6 []) .nil)) (.cons (.fn 58 .nil (.cons (.ptr 0 []) .nil)) (.cons (.fn 59 .nil (.cons (.ptr 0 []) .nil)) .nil))))))))), .var (.fn 48 .nil (.cons (.ptr 0 []) .nil))], ts := [.bool, (.slice (.int .i64)), (.arr 8 (.int .i64)), (.int .i64), (.slice (.pair (.pair (.int .i64) (.int .i64)) (.int .i64))), (.slice (.pair (.int .i64) (.int .i64))), (.slice (.pair (.int .i64) (.int .i64)))], pin := 7 }
noncomputable def F_trace_judge_rules_5 (x : ((Int × (Int × (Int × (Int × Int)))) × List (Int) × List (Int) × Int × List (((Int × Int) × Int)) × List ((Int × Int)) × List ((Int × Int)))) : Option (Bool × List (Int) × List (Int) × Int × List (((Int × Int) × Int)) × List ((Int × Int)) × List ((Int × Int))) :=
  ((F_trace_judge_n ((7 : Int), (x.1, (x.2.1, (x.2.2.1, (x.2.2.2.1, (x.2.2.2.2.1, (x.2.2.2.2.2.1, x.2.2.2.2.2.2))))))))).bind fun r16 =>
  bif (decide (r16.1 > (0 : Int))) then
    ((F_trace_judge_n ((5 : Int), (x.1, (x.2.1, (x.2.2.1, (x.2.2.2.1, (x.2.2.2.2.1, (x.2.2.2.2.2.1, x.2.2.2.2.2.2))))))))).bind fun r17 =>
    ((F_trace_judge_n ((3 : Int), (x.1, (x.2.1, (x.2.2.1, (x.2.2.2.1, (x.2.2.2.2.1, (x.2.2.2.2.2.1, x.2.2.2.2.2.2))))))))).bind fun r18 =>
    some ((r17.1 == r18.1), (x.2.1, (x.2.2.1, (x.2.2.2.1, (x.2.2.2.2.1, (x.2.2.2.2.2.1, x.2.2.2.2.2.2))))))
  else
    some (false, (x.2.1, (x.2.2.1, (x.2.2.2.1, (x.2.2.2.2.1, (x.2.2.2.2.2.1, x.2.2.2.2.2.2))))))
noncomputable def cx_trace_judge_rules_5 : Ctx := { tb := mkTb T2.tbl, fx := [(49, [], Spec.shpR si_trace_judge_n so_trace_judge_n F_trace_judge_n)], sum := [], nt := 17, pin := 7, nr := true, ys := [] }
theorem F_trace_judge_rules_5_ok : Sound Try.prog 54 (Spec.shp si_trace_judge_rules_5 so_trace_judge_rules_5 F_trace_judge_rules_5) :=
  Sound.shp (C := cx_trace_judge_rules_5) (fn := Try.f54) (by kernel_rfl) (c := bodyOf Try.f54) (by kernel_rfl) (by decide) (ctxOK mixed tbl_ok rfl ⟨F_trace_judge_n_rd, trivial⟩ trivial) (SumOK.of trivial) (by kernel_rfl) si_trace_judge_rules_5 so_trace_judge_rules_5 rfl (by decide) (by decide) rfl (by decide) rfl F_trace_judge_rules_5 (fun x => by kernel_rfl)
abbrev si_trace_judge_rules_6 : Shape := { sl := [(0, (.hole (.pair (.int .i64) (.pair (.int .i64) (.pair (.int .i64) (.pair (.int .i64) (.int .i64))))))), (1, (.ptr 0 []))], bl := [.var (.ptr 1 []), .var (.pr (.hole (.slice (.int .i64))) (.pr (.mp 2) (.pr (.hole (.arr 8 (.int .i64))) (.pr (.hole (.int .i64)) (.pr (.mp 3) (.pr (.mp 4) (.mp 5))))))), .mp (.pair (.int .i64) (.int .i64)) (.int .i64), .mp (.int .i64) (.int .i64), .mp (.int .i64) (.int .i64), .fm [1, 3, 5, 6, 7, 11, 12, 14, 15] (.cons (.fn 50 .nil (.cons (.ptr 0 []) .nil)) (.cons (.fn 51 .nil (.cons (.ptr 0 []) .nil)) (.cons (.fn 53 .nil (.cons (.ptr 0 []) .nil)) (.cons (.fn 54 .nil (.cons (.ptr 0 []) .nil)) (.cons (.fn 55 .nil (.cons (.ptr 0 []) .nil)) (.cons (.fn 56 .nil (.cons (.ptr 6 []) .nil)) (.cons (.fn 57 .nil (.cons (.ptr 6 []) .nil)) (.cons (.fn 58 .nil (.cons (.ptr 0 []) .nil)) (.cons (.fn 59 .nil (.cons (.ptr 0 []) .nil)) .nil))))))))), .var (.fn 48 .nil (.cons (.ptr 0 []) .nil))], ts := [(.pair (.int .i64) (.pair (.int .i64) (.pair (.int .i64) (.pair (.int .i64) (.int .i64))))), (.slice (.int .i64)), (.arr 8 (.int .i64)), (.int .i64), (.slice (.pair (.pair (.int .i64) (.int .i64)) (.int .i64))), (.slice (.pair (.int .i64) (.int .i64))), (.slice (.pair (.int .i64) (.int .i64)))], pin := 0 }
abbrev so_trace_judge_rules_6 : Shape := { sl := [(0, (.hole .bool))], bl := [.var (.ptr 1 []), .var (.pr (.hole (.slice (.int .i64))) (.pr (.mp 2) (.pr (.hole (.arr 8 (.int .i64))) (.pr (.hole (.int .i64)) (.pr (.mp 3) (.pr (.mp 4) (.mp 5))))))), .mp (.pair (.int .i64) (.int .i64)) (.int .i64), .mp (.int .i64) (.int .i64), .mp (.int .i64) (.int .i64), .fm [1, 3, 5, 6, 7, 11, 12, 14, 15] (.cons (.fn 50 .nil (.cons (.ptr 0 []) .nil)) (.cons (.fn 51 .nil (.cons (.ptr 0 []) .nil)) (.cons (.fn 53 .nil (.cons (.ptr 0 []) .nil)) (.cons (.fn 54 .nil (.cons (.ptr 0 []) .nil)) (.cons (.fn 55 .nil (.cons (.ptr 0 []) .nil)) (.cons (.fn 56 .nil (.cons (.ptr 6 []) .nil)) (.cons (.fn 57 .nil (.cons (.ptr 6 []) .nil)) (.cons (.fn 58 .nil (.cons (.ptr 0 []) .nil)) (.cons (.fn 59 .nil (.cons (.ptr 0 []) .nil)) .nil))))))))), .var (.fn 48 .nil (.cons (.ptr 0 []) .nil))], ts := [.bool, (.slice (.int .i64)), (.arr 8 (.int .i64)), (.int .i64), (.slice (.pair (.pair (.int .i64) (.int .i64)) (.int .i64))), (.slice (.pair (.int .i64) (.int .i64))), (.slice (.pair (.int .i64) (.int .i64)))], pin := 7 }
noncomputable def F_trace_judge_rules_6 (x : ((Int × (Int × (Int × (Int × Int)))) × List (Int) × List (Int) × Int × List (((Int × Int) × Int)) × List ((Int × Int)) × List ((Int × Int)))) : Option (Bool × List (Int) × List (Int) × Int × List (((Int × Int) × Int)) × List ((Int × Int)) × List ((Int × Int))) :=
  ((F_trace_judge_open (x.1, (x.2.1, (x.2.2.1, (x.2.2.2.1, (x.2.2.2.2.1, (x.2.2.2.2.2.1, x.2.2.2.2.2.2)))))))).bind fun r16 =>
  bif r16.1 then
    ((F_trace_judge_n ((7 : Int), (x.1, (r16.2.1, (r16.2.2.1, (r16.2.2.2.1, (r16.2.2.2.2.1, (r16.2.2.2.2.2.1, r16.2.2.2.2.2.2))))))))).bind fun r17 =>
    some ((r17.1 == (0 : Int)), (r16.2.1, (r16.2.2.1, (r16.2.2.2.1, (r16.2.2.2.2.1, (r16.2.2.2.2.2.1, r16.2.2.2.2.2.2))))))
  else
    some (false, (r16.2.1, (r16.2.2.1, (r16.2.2.2.1, (r16.2.2.2.2.1, (r16.2.2.2.2.2.1, r16.2.2.2.2.2.2))))))
noncomputable def cx_trace_judge_rules_6 : Ctx := { tb := mkTb T2.tbl, fx := [(52, [], Spec.thin (Spec.shp si_trace_judge_open so_trace_judge_open F_trace_judge_open)), (49, [], Spec.shpR si_trace_judge_n so_trace_judge_n F_trace_judge_n)], sum := [], nt := 13, pin := 7, nr := true, ys := [] }
theorem F_trace_judge_rules_6_ok : Sound Try.prog 55 (Spec.shp si_trace_judge_rules_6 so_trace_judge_rules_6 F_trace_judge_rules_6) :=
  Sound.shp (C := cx_trace_judge_rules_6) (fn := Try.f55) (by kernel_rfl) (c := bodyOf Try.f55) (by kernel_rfl) (by decide) (ctxOK mixed tbl_ok rfl ⟨F_trace_judge_open_ok.thin, F_trace_judge_n_rd, trivial⟩ trivial) (SumOK.of trivial) (by kernel_rfl) si_trace_judge_rules_6 so_trace_judge_rules_6 rfl (by decide) (by decide) rfl (by decide) rfl F_trace_judge_rules_6 (fun x => by kernel_rfl)
abbrev si_trace_judge_rules_1 : Shape := { sl := [(0, (.hole (.pair (.int .i64) (.pair (.int .i64) (.pair (.int .i64) (.pair (.int .i64) (.int .i64))))))), (1, (.ptr 0 []))], bl := [.var (.ptr 1 []), .var (.pr (.hole (.slice (.int .i64))) (.pr (.mp 2) (.pr (.hole (.arr 8 (.int .i64))) (.pr (.hole (.int .i64)) (.pr (.mp 3) (.pr (.mp 4) (.mp 5))))))), .mp (.pair (.int .i64) (.int .i64)) (.int .i64), .mp (.int .i64) (.int .i64), .mp (.int .i64) (.int .i64), .fm [1, 3, 5, 6, 7, 11, 12, 14, 15] (.cons (.fn 50 .nil (.cons (.ptr 0 []) .nil)) (.cons (.fn 51 .nil (.cons (.ptr 0 []) .nil)) (.cons (.fn 53 .nil (.cons (.ptr 0 []) .nil)) (.cons (.fn 54 .nil (.cons (.ptr 0 []) .nil)) (.cons (.fn 55 .nil (.cons (.ptr 0 []) .nil)) (.cons (.fn 56 .nil (.cons (.ptr 6 []) .nil)) (.cons (.fn 57 .nil (.cons (.ptr 6 []) .nil)) (.cons (.fn 58 .nil (.cons (.ptr 0 []) .nil)) (.cons (.fn 59 .nil (.cons (.ptr 0 []) .nil)) .nil))))))))), .var (.fn 48 .nil (.cons (.ptr 0 []) .nil))], ts := [(.pair (.int .i64) (.pair (.int .i64) (.pair (.int .i64) (.pair (.int .i64) (.int .i64))))), (.slice (.int .i64)), (.arr 8 (.int .i64)), (.int .i64), (.slice (.pair (.pair (.int .i64) (.int .i64)) (.int .i64))), (.slice (.pair (.int .i64) (.int .i64))), (.slice (.pair (.int .i64) (.int .i64)))], pin := 0 }
abbrev so_trace_judge_rules_1 : Shape := { sl := [(0, (.hole (.int .i64)))], bl := [.var (.ptr 1 []), .var (.pr (.hole (.slice (.int .i64))) (.pr (.mp 2) (.pr (.hole (.arr 8 (.int .i64))) (.pr (.hole (.int .i64)) (.pr (.mp 3) (.pr (.mp 4) (.mp 5))))))), .mp (.pair (.int .i64) (.int .i64)) (.int .i64), .mp (.int .i64) (.int .i64), .mp (.int .i64) (.int .i64), .fm [1, 3, 5, 6, 7, 11, 12, 14, 15] (.cons (.fn 50 .nil (.cons (.ptr 0 []) .nil)) (.cons (.fn 51 .nil (.cons (.ptr 0 []) .nil)) (.cons (.fn 53 .nil (.cons (.ptr 0 []) .nil)) (.cons (.fn 54 .nil (.cons (.ptr 0 []) .nil)) (.cons (.fn 55 .nil (.cons (.ptr 0 []) .nil)) (.cons (.fn 56 .nil (.cons (.ptr 6 []) .nil)) (.cons (.fn 57 .nil (.cons (.ptr 6 []) .nil)) (.cons (.fn 58 .nil (.cons (.ptr 0 []) .nil)) (.cons (.fn 59 .nil (.cons (.ptr 0 []) .nil)) .nil))))))))), .var (.fn 48 .nil (.cons (.ptr 0 []) .nil))], ts := [(.int .i64), (.slice (.int .i64)), (.arr 8 (.int .i64)), (.int .i64), (.slice (.pair (.pair (.int .i64) (.int .i64)) (.int .i64))), (.slice (.pair (.int .i64) (.int .i64))), (.slice (.pair (.int .i64) (.int .i64)))], pin := 7 }
noncomputable def F_trace_judge_rules_1 (x : ((Int × (Int × (Int × (Int × Int)))) × List (Int) × List (Int) × Int × List (((Int × Int) × Int)) × List ((Int × Int)) × List ((Int × Int)))) : Option (Int × List (Int) × List (Int) × Int × List (((Int × Int) × Int)) × List ((Int × Int)) × List ((Int × Int))) :=
  ((F_trace_judge_n ((11 : Int), (x.1, (x.2.1, (x.2.2.1, (x.2.2.2.1, (x.2.2.2.2.1, (x.2.2.2.2.2.1, x.2.2.2.2.2.2))))))))).bind fun r17 =>
  ((F_trace_judge_n ((12 : Int), (x.1, (x.2.1, (x.2.2.1, (x.2.2.2.1, (x.2.2.2.2.1, (x.2.2.2.2.2.1, x.2.2.2.2.2.2))))))))).bind fun r18 =>
  some ((Go.IntKind.wrap Go.IntKind.i64 (r17.1 - r18.1)), (x.2.1, (x.2.2.1, (x.2.2.2.1, (x.2.2.2.2.1, (x.2.2.2.2.2.1, x.2.2.2.2.2.2))))))
noncomputable def cx_trace_judge_rules_1 : Ctx := { tb := mkTb T2.tbl, fx := [(49, [], Spec.shpR si_trace_judge_n so_trace_judge_n F_trace_judge_n)], sum := [], nt := 11, pin := 7, nr := true, ys := [] }
theorem F_trace_judge_rules_1_ok : Sound Try.prog 48 (Spec.shp si_trace_judge_rules_1 so_trace_judge_rules_1 F_trace_judge_rules_1) :=
  Sound.shp (C := cx_trace_judge_rules_1) (fn := Try.f48) (by kernel_rfl) (c := bodyOf Try.f48) (by kernel_rfl) (by decide) (ctxOK mixed tbl_ok rfl ⟨F_trace_judge_n_rd, trivial⟩ trivial) (SumOK.of trivial) (by kernel_rfl) si_trace_judge_rules_1 so_trace_judge_rules_1 rfl (by decide) (by decide) rfl (by decide) rfl F_trace_judge_rules_1 (fun x => by kernel_rfl)
abbrev si_trace_judge_rules_7 : Shape := { sl := [(0, (.hole (.pair (.int .i64) (.pair (.int .i64) (.pair (.int .i64) (.pair (.int .i64) (.int .i64))))))), (1, (.ptr 0 []))], bl := [.var (.fn 48 .nil (.cons (.ptr 1 []) .nil)), .var (.ptr 2 []), .var (.pr (.hole (.slice (.int .i64))) (.pr (.mp 3) (.pr (.hole (.arr 8 (.int .i64))) (.pr (.hole (.int .i64)) (.pr (.mp 4) (.pr (.mp 5) (.mp 6))))))), .mp (.pair (.int .i64) (.int .i64)) (.int .i64), .mp (.int .i64) (.int .i64), .mp (.int .i64) (.int .i64), .fm [1, 3, 5, 6, 7, 11, 12, 14, 15] (.cons (.fn 50 .nil (.cons (.ptr 1 []) .nil)) (.cons (.fn 51 .nil (.cons (.ptr 1 []) .nil)) (.cons (.fn 53 .nil (.cons (.ptr 1 []) .nil)) (.cons (.fn 54 .nil (.cons (.ptr 1 []) .nil)) (.cons (.fn 55 .nil (.cons (.ptr 1 []) .nil)) (.cons (.fn 56 .nil (.cons (.ptr 0 []) .nil)) (.cons (.fn 57 .nil (.cons (.ptr 0 []) .nil)) (.cons (.fn 58 .nil (.cons (.ptr 1 []) .nil)) (.cons (.fn 59 .nil (.cons (.ptr 1 []) .nil)) .nil)))))))))], ts := [(.pair (.int .i64) (.pair (.int .i64) (.pair (.int .i64) (.pair (.int .i64) (.int .i64))))), (.slice (.int .i64)), (.arr 8 (.int .i64)), (.int .i64), (.slice (.pair (.pair (.int .i64) (.int .i64)) (.int .i64))), (.slice (.pair (.int .i64) (.int .i64))), (.slice (.pair (.int .i64) (.int .i64)))], pin := 0 }
abbrev so_trace_judge_rules_7 : Shape := { sl := [(0, (.hole .bool))], bl := [.var (.fn 48 .nil (.cons (.ptr 1 []) .nil)), .var (.ptr 2 []), .var (.pr (.hole (.slice (.int .i64))) (.pr (.mp 3) (.pr (.hole (.arr 8 (.int .i64))) (.pr (.hole (.int .i64)) (.pr (.mp 4) (.pr (.mp 5) (.mp 6))))))), .mp (.pair (.int .i64) (.int .i64)) (.int .i64), .mp (.int .i64) (.int .i64), .mp (.int .i64) (.int .i64), .fm [1, 3, 5, 6, 7, 11, 12, 14, 15] (.cons (.fn 50 .nil (.cons (.ptr 1 []) .nil)) (.cons (.fn 51 .nil (.cons (.ptr 1 []) .nil)) (.cons (.fn 53 .nil (.cons (.ptr 1 []) .nil)) (.cons (.fn 54 .nil (.cons (.ptr 1 []) .nil)) (.cons (.fn 55 .nil (.cons (.ptr 1 []) .nil)) (.cons (.fn 56 .nil (.cons (.ptr 0 []) .nil)) (.cons (.fn 57 .nil (.cons (.ptr 0 []) .nil)) (.cons (.fn 58 .nil (.cons (.ptr 1 []) .nil)) (.cons (.fn 59 .nil (.cons (.ptr 1 []) .nil)) .nil)))))))))], ts := [.bool, (.slice (.int .i64)), (.arr 8 (.int .i64)), (.int .i64), (.slice (.pair (.pair (.int .i64) (.int .i64)) (.int .i64))), (.slice (.pair (.int .i64) (.int .i64))), (.slice (.pair (.int .i64) (.int .i64)))], pin := 7 }
noncomputable def F_trace_judge_rules_7 (x : ((Int × (Int × (Int × (Int × Int)))) × List (Int) × List (Int) × Int × List (((Int × Int) × Int)) × List ((Int × Int)) × List ((Int × Int)))) : Option (Bool × List (Int) × List (Int) × Int × List (((Int × Int) × Int)) × List ((Int × Int)) × List ((Int × Int))) :=
  ((F_trace_judge_rules_1 (x.1, (x.2.1, (x.2.2.1, (x.2.2.2.1, (x.2.2.2.2.1, (x.2.2.2.2.2.1, x.2.2.2.2.2.2)))))))).bind fun r16 =>
  some ((r16.1 == (0 : Int)), (r16.2.1, (r16.2.2.1, (r16.2.2.2.1, (r16.2.2.2.2.1, (r16.2.2.2.2.2.1, r16.2.2.2.2.2.2))))))
noncomputable def cx_trace_judge_rules_7 : Ctx := { tb := mkTb T2.tbl, fx := [(48, [], Spec.thin (Spec.shp si_trace_judge_rules_1 so_trace_judge_rules_1 F_trace_judge_rules_1))], sum := [], nt := 8, pin := 7, nr := true, ys := [] }
theorem F_trace_judge_rules_7_ok : Sound Try.prog 56 (Spec.shp si_trace_judge_rules_7 so_trace_judge_rules_7 F_trace_judge_rules_7) :=
  Sound.shp (C := cx_trace_judge_rules_7) (fn := Try.f56) (by kernel_rfl) (c := bodyOf Try.f56) (by kernel_rfl) (by decide) (ctxOK mixed tbl_ok rfl ⟨F_trace_judge_rules_1_ok.thin, trivial⟩ trivial) (SumOK.of trivial) (by kernel_rfl) si_trace_judge_rules_7 so_trace_judge_rules_7 rfl (by decide) (by decide) rfl (by decide) rfl F_trace_judge_rules_7 (fun x => by kernel_rfl)
abbrev si_trace_judge_rules_8 : Shape := { sl := [(0, (.hole (.pair (.int .i64) (.pair (.int .i64) (.pair (.int .i64) (.pair (.int .i64) (.int .i64))))))), (1, (.ptr 0 []))], bl := [.var (.fn 48 .nil (.cons (.ptr 1 []) .nil)), .var (.ptr 2 []), .var (.pr (.hole (.slice (.int .i64))) (.pr (.mp 3) (.pr (.hole (.arr 8 (.int .i64))) (.pr (.hole (.int .i64)) (.pr (.mp 4) (.pr (.mp 5) (.mp 6))))))), .mp (.pair (.int .i64) (.int .i64)) (.int .i64), .mp (.int .i64) (.int .i64), .mp (.int .i64) (.int .i64), .fm [1, 3, 5, 6, 7, 11, 12, 14, 15] (.cons (.fn 50 .nil (.cons (.ptr 1 []) .nil)) (.cons (.fn 51 .nil (.cons (.ptr 1 []) .nil)) (.cons (.fn 53 .nil (.cons (.ptr 1 []) .nil)) (.cons (.fn 54 .nil (.cons (.ptr 1 []) .nil)) (.cons (.fn 55 .nil (.cons (.ptr 1 []) .nil)) (.cons (.fn 56 .nil (.cons (.ptr 0 []) .nil)) (.cons (.fn 57 .nil (.cons (.ptr 0 []) .nil)) (.cons (.fn 58 .nil (.cons (.ptr 1 []) .nil)) (.cons (.fn 59 .nil (.cons (.ptr 1 []) .nil)) .nil)))))))))], ts := [(.pair (.int .i64) (.pair (.int .i64) (.pair (.int .i64) (.pair (.int .i64) (.int .i64))))), (.slice (.int .i64)), (.arr 8 (.int .i64)), (.int .i64), (.slice (.pair (.pair (.int .i64) (.int .i64)) (.int .i64))), (.slice (.pair (.int .i64) (.int .i64))), (.slice (.pair (.int .i64) (.int .i64)))], pin := 0 }
abbrev so_trace_judge_rules_8 : Shape := { sl := [(0, (.hole .bool))], bl := [.var (.fn 48 .nil (.cons (.ptr 1 []) .nil)), .var (.ptr 2 []), .var (.pr (.hole (.slice (.int .i64))) (.pr (.mp 3) (.pr (.hole (.arr 8 (.int .i64))) (.pr (.hole (.int .i64)) (.pr (.mp 4) (.pr (.mp 5) (.mp 6))))))), .mp (.pair (.int .i64) (.int .i64)) (.int .i64), .mp (.int .i64) (.int .i64), .mp (.int .i64) (.int .i64), .fm [1, 3, 5, 6, 7, 11, 12, 14, 15] (.cons (.fn 50 .nil (.cons (.ptr 1 []) .nil)) (.cons (.fn 51 .nil (.cons (.ptr 1 []) .nil)) (.cons (.fn 53 .nil (.cons (.ptr 1 []) .nil)) (.cons (.fn 54 .nil (.cons (.ptr 1 []) .nil)) (.cons (.fn 55 .nil (.cons (.ptr 1 []) .nil)) (.cons (.fn 56 .nil (.cons (.ptr 0 []) .nil)) (.cons (.fn 57 .nil (.cons (.ptr 0 []) .nil)) (.cons (.fn 58 .nil (.cons (.ptr 1 []) .nil)) (.cons (.fn 59 .nil (.cons (.ptr 1 []) .nil)) .nil)))))))))], ts := [.bool, (.slice (.int .i64)), (.arr 8 (.int .i64)), (.int .i64), (.slice (.pair (.pair (.int .i64) (.int .i64)) (.int .i64))), (.slice (.pair (.int .i64) (.int .i64))), (.slice (.pair (.int .i64) (.int .i64)))], pin := 7 }
noncomputable def F_trace_judge_rules_8 (x : ((Int × (Int × (Int × (Int × Int)))) × List (Int) × List (Int) × Int × List (((Int × Int) × Int)) × List ((Int × Int)) × List ((Int × Int)))) : Option (Bool × List (Int) × List (Int) × Int × List (((Int × Int) × Int)) × List ((Int × Int)) × List ((Int × Int))) :=
  ((F_trace_judge_rules_1 (x.1, (x.2.1, (x.2.2.1, (x.2.2.2.1, (x.2.2.2.2.1, (x.2.2.2.2.2.1, x.2.2.2.2.2.2)))))))).bind fun r16 =>
  some ((r16.1 == (1 : Int)), (r16.2.1, (r16.2.2.1, (r16.2.2.2.1, (r16.2.2.2.2.1, (r16.2.2.2.2.2.1, r16.2.2.2.2.2.2))))))
noncomputable def cx_trace_judge_rules_8 : Ctx := { tb := mkTb T2.tbl, fx := [(48, [], Spec.thin (Spec.shp si_trace_judge_rules_1 so_trace_judge_rules_1 F_trace_judge_rules_1))], sum := [], nt := 8, pin := 7, nr := true, ys := [] }
theorem F_trace_judge_rules_8_ok : Sound Try.prog 57 (Spec.shp si_trace_judge_rules_8 so_trace_judge_rules_8 F_trace_judge_rules_8) :=
  Sound.shp (C := cx_trace_judge_rules_8) (fn := Try.f57) (by kernel_rfl) (c := bodyOf Try.f57) (by kernel_rfl) (by decide) (ctxOK mixed tbl_ok rfl ⟨F_trace_judge_rules_1_ok.thin, trivial⟩ trivial) (SumOK.of trivial) (by kernel_rfl) si_trace_judge_rules_8 so_trace_judge_rules_8 rfl (by decide) (by decide) rfl (by decide) rfl F_trace_judge_rules_8 (fun x => by kernel_rfl)
abbrev si_trace_judge_rules_9 : Shape := { sl := [(0, (.hole (.pair (.int .i64) (.pair (.int .i64) (.pair (.int .i64) (.pair (.int .i64) (.int .i64))))))), (1, (.ptr 0 []))], bl := [.var (.ptr 1 []), .var (.pr (.hole (.slice (.int .i64))) (.pr (.mp 2) (.pr (.hole (.arr 8 (.int .i64))) (.pr (.hole (.int .i64)) (.pr (.mp 3) (.pr (.mp 4) (.mp 5))))))), .mp (.pair (.int .i64) (.int .i64)) (.int .i64), .mp (.int .i64) (.int .i64), .mp (.int .i64) (.int .i64), .fm [1, 3, 5, 6, 7, 11, 12, 14, 15] (.cons (.fn 50 .nil (.cons (.ptr 0 []) .nil)) (.cons (.fn 51 .nil (.cons (.ptr 0 []) .nil)) (.cons (.fn 53 .nil (.cons (.ptr 0 []) .nil)) (.cons (.fn 54 .nil (.cons (.ptr 0 []) .nil)) (.cons (.fn 55 .nil (.cons (.ptr 0 []) .nil)) (.cons (.fn 56 .nil (.cons (.ptr 6 []) .nil)) (.cons (.fn 57 .nil (.cons (.ptr 6 []) .nil)) (.cons (.fn 58 .nil (.cons (.ptr 0 []) .nil)) (.cons (.fn 59 .nil (.cons (.ptr 0 []) .nil)) .nil))))))))), .var (.fn 48 .nil (.cons (.ptr 0 []) .nil))], ts := [(.pair (.int .i64) (.pair (.int .i64) (.pair (.int .i64) (.pair (.int .i64) (.int .i64))))), (.slice (.int .i64)), (.arr 8 (.int .i64)), (.int .i64), (.slice (.pair (.pair (.int .i64) (.int .i64)) (.int .i64))), (.slice (.pair (.int .i64) (.int .i64))), (.slice (.pair (.int .i64) (.int .i64)))], pin := 0 }
abbrev so_trace_judge_rules_9 : Shape := { sl := [(0, (.hole .bool))], bl := [.var (.ptr 1 []), .var (.pr (.hole (.slice (.int .i64))) (.pr (.mp 2) (.pr (.hole (.arr 8 (.int .i64))) (.pr (.hole (.int .i64)) (.pr (.mp 3) (.pr (.mp 4) (.mp 5))))))), .mp (.pair (.int .i64) (.int .i64)) (.int .i64), .mp (.int .i64) (.int .i64), .mp (.int .i64) (.int .i64), .fm [1, 3, 5, 6, 7, 11, 12, 14, 15] (.cons (.fn 50 .nil (.cons (.ptr 0 []) .nil)) (.cons (.fn 51 .nil (.cons (.ptr 0 []) .nil)) (.cons (.fn 53 .nil (.cons (.ptr 0 []) .nil)) (.cons (.fn 54 .nil (.cons (.ptr 0 []) .nil)) (.cons (.fn 55 .nil (.cons (.ptr 0 []) .nil)) (.cons (.fn 56 .nil (.cons (.ptr 6 []) .nil)) (.cons (.fn 57 .nil (.cons (.ptr 6 []) .nil)) (.cons (.fn 58 .nil (.cons (.ptr 0 []) .nil)) (.cons (.fn 59 .nil (.cons (.ptr 0 []) .nil)) .nil))))))))), .var (.fn 48 .nil (.cons (.ptr 0 []) .nil))], ts := [.bool, (.slice (.int .i64)), (.arr 8 (.int .i64)), (.int .i64), (.slice (.pair (.pair (.int .i64) (.int .i64)) (.int .i64))), (.slice (.pair (.int .i64) (.int .i64))), (.slice (.pair (.int .i64) (.int .i64)))], pin := 7 }
noncomputable def F_trace_judge_rules_9 (x : ((Int × (Int × (Int × (Int × Int)))) × List (Int) × List (Int) × Int × List (((Int × Int) × Int)) × List ((Int × Int)) × List ((Int × Int)))) : Option (Bool × List (Int) × List (Int) × Int × List (((Int × Int) × Int)) × List ((Int × Int)) × List ((Int × Int))) :=
  ((F_trace_judge_n ((14 : Int), (x.1, (x.2.1, (x.2.2.1, (x.2.2.2.1, (x.2.2.2.2.1, (x.2.2.2.2.2.1, x.2.2.2.2.2.2))))))))).bind fun r16 =>
  bif (r16.1 == (0 : Int)) then
    some (((@Go.Proofs.Ytkeolcgggondnaa.VX.mlook (Int) (Int) (Go.Proofs.Ytkeolcgggondnaa.VX.Ty.beq (.int .i64)) (Go.Proofs.Ytkeolcgggondnaa.VX.Ty.zero (.int .i64)) x.1.2.2.1 x.2.2.2.2.2.1) == (Go.IntKind.wrap Go.IntKind.i64 (x.1.1 + (1 : Int)))), (x.2.1, (x.2.2.1, (x.2.2.2.1, (x.2.2.2.2.1, (x.2.2.2.2.2.1, x.2.2.2.2.2.2))))))
  else
    some (false, (x.2.1, (x.2.2.1, (x.2.2.2.1, (x.2.2.2.2.1, (x.2.2.2.2.2.1, x.2.2.2.2.2.2))))))
noncomputable def cx_trace_judge_rules_9 : Ctx := { tb := mkTb T2.tbl, fx := [(49, [], Spec.shpR si_trace_judge_n so_trace_judge_n F_trace_judge_n)], sum := [], nt := 21, pin := 7, nr := true, ys := [] }
theorem F_trace_judge_rules_9_ok : Sound Try.prog 58 (Spec.shp si_trace_judge_rules_9 so_trace_judge_rules_9 F_trace_judge_rules_9) :=
  Sound.shp (C := cx_trace_judge_rules_9) (fn := Try.f58) (by kernel_rfl) (c := bodyOf Try.f58) (by kernel_rfl) (by decide) (ctxOK mixed tbl_ok rfl ⟨F_trace_judge_n_rd, trivial⟩ trivial) (SumOK.of trivial) (by kernel_rfl) si_trace_judge_rules_9 so_trace_judge_rules_9 rfl (by decide) (by decide) rfl (by decide) rfl F_trace_judge_rules_9 (fun x => by kernel_rfl)
abbrev si_trace_judge_rules_10 : Shape := { sl := [(0, (.hole (.pair (.int .i64) (.pair (.int .i64) (.pair (.int .i64) (.pair (.int .i64) (.int .i64))))))), (1, (.ptr 0 []))], bl := [.var (.ptr 1 []), .var (.pr (.hole (.slice (.int .i64))) (.pr (.mp 2) (.pr (.hole (.arr 8 (.int .i64))) (.pr (.hole (.int .i64)) (.pr (.mp 3) (.pr (.mp 4) (.mp 5))))))), .mp (.pair (.int .i64) (.int .i64)) (.int .i64), .mp (.int .i64) (.int .i64), .mp (.int .i64) (.int .i64), .fm [1, 3, 5, 6, 7, 11, 12, 14, 15] (.cons (.fn 50 .nil (.cons (.ptr 0 []) .nil)) (.cons (.fn 51 .nil (.cons (.ptr 0 []) .nil)) (.cons (.fn 53 .nil (.cons (.ptr 0 []) .nil)) (.cons (.fn 54 .nil (.cons (.ptr 0 []) .nil)) (.cons (.fn 55 .nil (.cons (.ptr 0 []) .nil)) (.cons (.fn 56 .nil (.cons (.ptr 6 []) .nil)) (.cons (.fn 57 .nil (.cons (.ptr 6 []) .nil)) (.cons (.fn 58 .nil (.cons (.ptr 0 []) .nil)) (.cons (.fn 59 .nil (.cons (.ptr 0 []) .nil)) .nil))))))))), .var (.fn 48 .nil (.cons (.ptr 0 []) .nil))], ts := [(.pair (.int .i64) (.pair (.int .i64) (.pair (.int .i64) (.pair (.int .i64) (.int .i64))))), (.slice (.int .i64)), (.arr 8 (.int .i64)), (.int .i64), (.slice (.pair (.pair (.int .i64) (.int .i64)) (.int .i64))), (.slice (.pair (.int .i64) (.int .i64))), (.slice (.pair (.int .i64) (.int .i64)))], pin := 0 }
abbrev so_trace_judge_rules_10 : Shape := { sl := [(0, (.hole .bool))], bl := [.var (.ptr 1 []), .var (.pr (.hole (.slice (.int .i64))) (.pr (.mp 2) (.pr (.hole (.arr 8 (.int .i64))) (.pr (.hole (.int .i64)) (.pr (.mp 3) (.pr (.mp 4) (.mp 5))))))), .mp (.pair (.int .i64) (.int .i64)) (.int .i64), .mp (.int .i64) (.int .i64), .mp (.int .i64) (.int .i64), .fm [1, 3, 5, 6, 7, 11, 12, 14, 15] (.cons (.fn 50 .nil (.cons (.ptr 0 []) .nil)) (.cons (.fn 51 .nil (.cons (.ptr 0 []) .nil)) (.cons (.fn 53 .nil (.cons (.ptr 0 []) .nil)) (.cons (.fn 54 .nil (.cons (.ptr 0 []) .nil)) (.cons (.fn 55 .nil (.cons (.ptr 0 []) .nil)) (.cons (.fn 56 .nil (.cons (.ptr 6 []) .nil)) (.cons (.fn 57 .nil (.cons (.ptr 6 []) .nil)) (.cons (.fn 58 .nil (.cons (.ptr 0 []) .nil)) (.cons (.fn 59 .nil (.cons (.ptr 0 []) .nil)) .nil))))))))), .var (.fn 48 .nil (.cons (.ptr 0 []) .nil))], ts := [.bool, (.slice (.int .i64)), (.arr 8 (.int .i64)), (.int .i64), (.slice (.pair (.pair (.int .i64) (.int .i64)) (.int .i64))), (.slice (.pair (.int .i64) (.int .i64))), (.slice (.pair (.int .i64) (.int .i64)))], pin := 7 }
noncomputable def F_trace_judge_rules_10 (x : ((Int × (Int × (Int × (Int × Int)))) × List (Int) × List (Int) × Int × List (((Int × Int) × Int)) × List ((Int × Int)) × List ((Int × Int)))) : Option (Bool × List (Int) × List (Int) × Int × List (((Int × Int) × Int)) × List ((Int × Int)) × List ((Int × Int))) :=
  ((F_trace_judge_n ((14 : Int), (x.1, (x.2.1, (x.2.2.1, (x.2.2.2.1, (x.2.2.2.2.1, (x.2.2.2.2.2.1, x.2.2.2.2.2.2))))))))).bind fun r16 =>
  some ((decide (r16.1 > (0 : Int))), (x.2.1, (x.2.2.1, (x.2.2.2.1, (x.2.2.2.2.1, (x.2.2.2.2.2.1, x.2.2.2.2.2.2))))))
noncomputable def cx_trace_judge_rules_10 : Ctx := { tb := mkTb T2.tbl, fx := [(49, [], Spec.shpR si_trace_judge_n so_trace_judge_n F_trace_judge_n)], sum := [], nt := 8, pin := 7, nr := true, ys := [] }
theorem F_trace_judge_rules_10_ok : Sound Try.prog 59 (Spec.shp si_trace_judge_rules_10 so_trace_judge_rules_10 F_trace_judge_rules_10) :=
  Sound.shp (C := cx_trace_judge_rules_10) (fn := Try.f59) (by kernel_rfl) (c := bodyOf Try.f59) (by kernel_rfl) (by decide) (ctxOK mixed tbl_ok rfl ⟨F_trace_judge_n_rd, trivial⟩ trivial) (SumOK.of trivial) (by kernel_rfl) si_trace_judge_rules_10 so_trace_judge_rules_10 rfl (by decide) (by decide) rfl (by decide) rfl F_trace_judge_rules_10 (fun x => by kernel_rfl)
abbrev si_trace_judge_right : Shape := { sl := [(0, (.ptr 0 [])), (1, (.hole (.slice (.pair (.int .i64) (.pair (.int .i64) (.pair (.int .i64) (.pair (.int .i64) (.int .i64)))))))), (2, (.hole (.pair (.int .i64) (.pair (.int .i64) (.pair (.int .i64) (.pair (.int .i64) (.int .i64)))))))], bl := [.var (.pr (.hole (.slice (.int .i64))) (.pr (.mp 1) (.pr (.hole (.arr 8 (.int .i64))) (.pr (.hole (.int .i64)) (.pr (.mp 2) (.pr (.mp 3) (.mp 4))))))), .mp (.pair (.int .i64) (.int .i64)) (.int .i64), .mp (.int .i64) (.int .i64), .mp (.int .i64) (.int .i64), .fm [1, 3, 5, 6, 7, 11, 12, 14, 15] (.cons (.fn 50 .nil (.cons (.ptr 5 []) .nil)) (.cons (.fn 51 .nil (.cons (.ptr 5 []) .nil)) (.cons (.fn 53 .nil (.cons (.ptr 5 []) .nil)) (.cons (.fn 54 .nil (.cons (.ptr 5 []) .nil)) (.cons (.fn 55 .nil (.cons (.ptr 5 []) .nil)) (.cons (.fn 56 .nil (.cons (.ptr 6 []) .nil)) (.cons (.fn 57 .nil (.cons (.ptr 6 []) .nil)) (.cons (.fn 58 .nil (.cons (.ptr 5 []) .nil)) (.cons (.fn 59 .nil (.cons (.ptr 5 []) .nil)) .nil))))))))), .var (.ptr 0 []), .var (.fn 48 .nil (.cons (.ptr 5 []) .nil))], ts := [(.slice (.pair (.int .i64) (.pair (.int .i64) (.pair (.int .i64) (.pair (.int .i64) (.int .i64)))))), (.pair (.int .i64) (.pair (.int .i64) (.pair (.int .i64) (.pair (.int .i64) (.int .i64))))), (.slice (.int .i64)), (.arr 8 (.int .i64)), (.int .i64), (.slice (.pair (.pair (.int .i64) (.int .i64)) (.int .i64))), (.slice (.pair (.int .i64) (.int .i64))), (.slice (.pair (.int .i64) (.int .i64)))], pin := 0 }
abbrev so_trace_judge_right : Shape := { sl := [(0, (.hole .bool))], bl := [.var (.pr (.hole (.slice (.int .i64))) (.pr (.mp 1) (.pr (.hole (.arr 8 (.int .i64))) (.pr (.hole (.int .i64)) (.pr (.mp 2) (.pr (.mp 3) (.mp 4))))))), .mp (.pair (.int .i64) (.int .i64)) (.int .i64), .mp (.int .i64) (.int .i64), .mp (.int .i64) (.int .i64), .fm [1, 3, 5, 6, 7, 11, 12, 14, 15] (.cons (.fn 50 .nil (.cons (.ptr 5 []) .nil)) (.cons (.fn 51 .nil (.cons (.ptr 5 []) .nil)) (.cons (.fn 53 .nil (.cons (.ptr 5 []) .nil)) (.cons (.fn 54 .nil (.cons (.ptr 5 []) .nil)) (.cons (.fn 55 .nil (.cons (.ptr 5 []) .nil)) (.cons (.fn 56 .nil (.cons (.ptr 6 []) .nil)) (.cons (.fn 57 .nil (.cons (.ptr 6 []) .nil)) (.cons (.fn 58 .nil (.cons (.ptr 5 []) .nil)) (.cons (.fn 59 .nil (.cons (.ptr 5 []) .nil)) .nil))))))))), .var (.ptr 0 []), .var (.fn 48 .nil (.cons (.ptr 5 []) .nil))], ts := [.bool, (.slice (.int .i64)), (.arr 8 (.int .i64)), (.int .i64), (.slice (.pair (.pair (.int .i64) (.int .i64)) (.int .i64))), (.slice (.pair (.int .i64) (.int .i64))), (.slice (.pair (.int .i64) (.int .i64)))], pin := 7 }
noncomputable def F_trace_judge_right (x : (List ((Int × (Int × (Int × (Int × Int))))) × (Int × (Int × (Int × (Int × Int)))) × List (Int) × List (Int) × Int × List (((Int × Int) × Int)) × List ((Int × Int)) × List ((Int × Int)))) : Option (Bool × List (Int) × List (Int) × Int × List (((Int × Int) × Int)) × List ((Int × Int)) × List ((Int × Int))) :=
  ((F_trace_in (x.2.1.1, ((0 : Int), (7 : Int))))).bind fun r9 =>
  bif (Bool.not r9) then
    some (false, (x.2.2.1, (x.2.2.2.1, (x.2.2.2.2.1, (x.2.2.2.2.2.1, (x.2.2.2.2.2.2.1, x.2.2.2.2.2.2.2))))))
  else
    ((F_trace_in (x.2.1.2.1, ((0 : Int), (17 : Int))))).bind fun r10 =>
    bif (Bool.not r10) then
      some (false, (x.2.2.1, (x.2.2.2.1, (x.2.2.2.2.1, (x.2.2.2.2.2.1, (x.2.2.2.2.2.2.1, x.2.2.2.2.2.2.2))))))
    else
      bif (decide (x.2.1.2.2.2.1 < (0 : Int))) then
        some (false, (x.2.2.1, (x.2.2.2.1, (x.2.2.2.2.1, (x.2.2.2.2.2.1, (x.2.2.2.2.2.2.1, x.2.2.2.2.2.2.2))))))
      else
        ((F_trace_in (x.2.1.2.2.2.2, ((Int.negSucc 0), (Go.IntKind.wrap Go.IntKind.i64 ((((List.length x.1) : Nat) : Int) - (1 : Int))))))).bind fun r11 =>
        bif (Bool.not r11) then
          some (false, (x.2.2.1, (x.2.2.2.1, (x.2.2.2.2.1, (x.2.2.2.2.2.1, (x.2.2.2.2.2.2.1, x.2.2.2.2.2.2.2))))))
        else
          bif (x.2.1.2.1 == (0 : Int)) then
            ((F_trace_judge_begins (x.1, (x.2.1, (x.2.2.1, (x.2.2.2.1, (x.2.2.2.2.1, (x.2.2.2.2.2.1, (x.2.2.2.2.2.2.1, x.2.2.2.2.2.2.2))))))))).bind fun r12 =>
            some (r12.1, (r12.2.1, (r12.2.2.1, (r12.2.2.2.1, (r12.2.2.2.2.1, (r12.2.2.2.2.2.1, r12.2.2.2.2.2.2))))))
          else
            bif (x.2.1.2.1 == (3 : Int)) then
              bif (Go.Proofs.Ytkeolcgggondnaa.VX.inb x.2.1.1 8) then
                bif ((Go.Proofs.Ytkeolcgggondnaa.VX.getAt (0 : Int) x.2.2.2.1 (Go.Proofs.Ytkeolcgggondnaa.VX.toN x.2.1.1)) == (0 : Int)) then
                  some (false, (x.2.2.1, (x.2.2.2.1, (x.2.2.2.2.1, (x.2.2.2.2.2.1, (x.2.2.2.2.2.2.1, x.2.2.2.2.2.2.2))))))
                else
                  bif (x.2.1.2.1 != (1 : Int)) then
                    ((F_trace_judge_objs (x.2.1.2.1, (x.2.2.1, (x.2.2.2.1, (x.2.2.2.2.1, (x.2.2.2.2.2.1, (x.2.2.2.2.2.2.1, x.2.2.2.2.2.2.2)))))))).bind fun r12 =>
                    ((F_trace_in (x.2.1.2.2.1, ((0 : Int), (Go.IntKind.wrap Go.IntKind.i64 (r12.1 - (1 : Int))))))).bind fun r13 =>
                    bif (Bool.not r13) then
                      some (false, (r12.2.1, (r12.2.2.1, (r12.2.2.2.1, (r12.2.2.2.2.1, (r12.2.2.2.2.2.1, r12.2.2.2.2.2.2))))))
                    else
                      ((F_trace_judge_began (x.1, (x.2.1, (r12.2.1, (r12.2.2.1, (r12.2.2.2.1, (r12.2.2.2.2.1, (r12.2.2.2.2.2.1, r12.2.2.2.2.2.2))))))))).bind fun r14 =>
                      bif (Bool.not r14.1) then
                        some (false, (r14.2.1, (r14.2.2.1, (r14.2.2.2.1, (r14.2.2.2.2.1, (r14.2.2.2.2.2.1, r14.2.2.2.2.2.2))))))
                      else
                        bif (Go.Proofs.Ytkeolcgggondnaa.VX.eqI x.2.1.2.1 (1 : Int)) then
                          ((F_trace_judge_rules_2 (x.2.1, (r14.2.1, (r14.2.2.1, (r14.2.2.2.1, (r14.2.2.2.2.1, (r14.2.2.2.2.2.1, r14.2.2.2.2.2.2)))))))).bind fun r15 =>
                          some (r15.1, (r14.2.1, (r14.2.2.1, (r14.2.2.2.1, (r14.2.2.2.2.1, (r14.2.2.2.2.2.1, r14.2.2.2.2.2.2))))))
                        else
                          bif (Go.Proofs.Ytkeolcgggondnaa.VX.eqI x.2.1.2.1 (3 : Int)) then
                            ((F_trace_judge_rules_3 (x.2.1, (r14.2.1, (r14.2.2.1, (r14.2.2.2.1, (r14.2.2.2.2.1, (r14.2.2.2.2.2.1, r14.2.2.2.2.2.2)))))))).bind fun r15 =>
                            some (r15.1, (r15.2.1, (r15.2.2.1, (r15.2.2.2.1, (r15.2.2.2.2.1, (r15.2.2.2.2.2.1, r15.2.2.2.2.2.2))))))
                          else
                            bif (Go.Proofs.Ytkeolcgggondnaa.VX.eqI x.2.1.2.1 (5 : Int)) then
                              ((F_trace_judge_rules_4 (x.2.1, (r14.2.1, (r14.2.2.1, (r14.2.2.2.1, (r14.2.2.2.2.1, (r14.2.2.2.2.2.1, r14.2.2.2.2.2.2)))))))).bind fun r15 =>
                              some (r15.1, (r15.2.1, (r15.2.2.1, (r15.2.2.2.1, (r15.2.2.2.2.1, (r15.2.2.2.2.2.1, r15.2.2.2.2.2.2))))))
                            else
                              bif (Go.Proofs.Ytkeolcgggondnaa.VX.eqI x.2.1.2.1 (6 : Int)) then
                                ((F_trace_judge_rules_5 (x.2.1, (r14.2.1, (r14.2.2.1, (r14.2.2.2.1, (r14.2.2.2.2.1, (r14.2.2.2.2.2.1, r14.2.2.2.2.2.2)))))))).bind fun r15 =>
                                some (r15.1, (r15.2.1, (r15.2.2.1, (r15.2.2.2.1, (r15.2.2.2.2.1, (r15.2.2.2.2.2.1, r15.2.2.2.2.2.2))))))
                              else
                                bif (Go.Proofs.Ytkeolcgggondnaa.VX.eqI x.2.1.2.1 (7 : Int)) then
                                  ((F_trace_judge_rules_6 (x.2.1, (r14.2.1, (r14.2.2.1, (r14.2.2.2.1, (r14.2.2.2.2.1, (r14.2.2.2.2.2.1, r14.2.2.2.2.2.2)))))))).bind fun r15 =>
                                  some (r15.1, (r15.2.1, (r15.2.2.1, (r15.2.2.2.1, (r15.2.2.2.2.1, (r15.2.2.2.2.2.1, r15.2.2.2.2.2.2))))))
                                else
                                  bif (Go.Proofs.Ytkeolcgggondnaa.VX.eqI x.2.1.2.1 (11 : Int)) then
                                    ((F_trace_judge_rules_7 (x.2.1, (r14.2.1, (r14.2.2.1, (r14.2.2.2.1, (r14.2.2.2.2.1, (r14.2.2.2.2.2.1, r14.2.2.2.2.2.2)))))))).bind fun r15 =>
                                    some (r15.1, (r15.2.1, (r15.2.2.1, (r15.2.2.2.1, (r15.2.2.2.2.1, (r15.2.2.2.2.2.1, r15.2.2.2.2.2.2))))))
                                  else
                                    bif (Go.Proofs.Ytkeolcgggondnaa.VX.eqI x.2.1.2.1 (12 : Int)) then
                                      ((F_trace_judge_rules_8 (x.2.1, (r14.2.1, (r14.2.2.1, (r14.2.2.2.1, (r14.2.2.2.2.1, (r14.2.2.2.2.2.1, r14.2.2.2.2.2.2)))))))).bind fun r15 =>
                                      some (r15.1, (r15.2.1, (r15.2.2.1, (r15.2.2.2.1, (r15.2.2.2.2.1, (r15.2.2.2.2.2.1, r15.2.2.2.2.2.2))))))
                                    else
                                      bif (Go.Proofs.Ytkeolcgggondnaa.VX.eqI x.2.1.2.1 (14 : Int)) then
                                        ((F_trace_judge_rules_9 (x.2.1, (r14.2.1, (r14.2.2.1, (r14.2.2.2.1, (r14.2.2.2.2.1, (r14.2.2.2.2.2.1, r14.2.2.2.2.2.2)))))))).bind fun r15 =>
                                        some (r15.1, (r15.2.1, (r15.2.2.1, (r15.2.2.2.1, (r15.2.2.2.2.1, (r15.2.2.2.2.2.1, r15.2.2.2.2.2.2))))))
                                      else
                                        bif (Go.Proofs.Ytkeolcgggondnaa.VX.eqI x.2.1.2.1 (15 : Int)) then
                                          ((F_trace_judge_rules_10 (x.2.1, (r14.2.1, (r14.2.2.1, (r14.2.2.2.1, (r14.2.2.2.2.1, (r14.2.2.2.2.2.1, r14.2.2.2.2.2.2)))))))).bind fun r15 =>
                                          some (r15.1, (r15.2.1, (r15.2.2.1, (r15.2.2.2.1, (r15.2.2.2.2.1, (r15.2.2.2.2.2.1, r15.2.2.2.2.2.2))))))
                                        else
                                          some (true, (r14.2.1, (r14.2.2.1, (r14.2.2.2.1, (r14.2.2.2.2.1, (r14.2.2.2.2.2.1, r14.2.2.2.2.2.2))))))
                  else
                    ((F_trace_judge_began (x.1, (x.2.1, (x.2.2.1, (x.2.2.2.1, (x.2.2.2.2.1, (x.2.2.2.2.2.1, (x.2.2.2.2.2.2.1, x.2.2.2.2.2.2.2))))))))).bind fun r12 =>
                    bif (Bool.not r12.1) then
                      some (false, (r12.2.1, (r12.2.2.1, (r12.2.2.2.1, (r12.2.2.2.2.1, (r12.2.2.2.2.2.1, r12.2.2.2.2.2.2))))))
                    else
                      bif (Go.Proofs.Ytkeolcgggondnaa.VX.eqI x.2.1.2.1 (1 : Int)) then
                        ((F_trace_judge_rules_2 (x.2.1, (r12.2.1, (r12.2.2.1, (r12.2.2.2.1, (r12.2.2.2.2.1, (r12.2.2.2.2.2.1, r12.2.2.2.2.2.2)))))))).bind fun r13 =>
                        some (r13.1, (r12.2.1, (r12.2.2.1, (r12.2.2.2.1, (r12.2.2.2.2.1, (r12.2.2.2.2.2.1, r12.2.2.2.2.2.2))))))
                      else
                        bif (Go.Proofs.Ytkeolcgggondnaa.VX.eqI x.2.1.2.1 (3 : Int)) then
                          ((F_trace_judge_rules_3 (x.2.1, (r12.2.1, (r12.2.2.1, (r12.2.2.2.1, (r12.2.2.2.2.1, (r12.2.2.2.2.2.1, r12.2.2.2.2.2.2)))))))).bind fun r13 =>
                          some (r13.1, (r13.2.1, (r13.2.2.1, (r13.2.2.2.1, (r13.2.2.2.2.1, (r13.2.2.2.2.2.1, r13.2.2.2.2.2.2))))))
                        else
                          bif (Go.Proofs.Ytkeolcgggondnaa.VX.eqI x.2.1.2.1 (5 : Int)) then
                            ((F_trace_judge_rules_4 (x.2.1, (r12.2.1, (r12.2.2.1, (r12.2.2.2.1, (r12.2.2.2.2.1, (r12.2.2.2.2.2.1, r12.2.2.2.2.2.2)))))))).bind fun r13 =>
                            some (r13.1, (r13.2.1, (r13.2.2.1, (r13.2.2.2.1, (r13.2.2.2.2.1, (r13.2.2.2.2.2.1, r13.2.2.2.2.2.2))))))
                          else
                            bif (Go.Proofs.Ytkeolcgggondnaa.VX.eqI x.2.1.2.1 (6 : Int)) then
                              ((F_trace_judge_rules_5 (x.2.1, (r12.2.1, (r12.2.2.1, (r12.2.2.2.1, (r12.2.2.2.2.1, (r12.2.2.2.2.2.1, r12.2.2.2.2.2.2)))))))).bind fun r13 =>
                              some (r13.1, (r13.2.1, (r13.2.2.1, (r13.2.2.2.1, (r13.2.2.2.2.1, (r13.2.2.2.2.2.1, r13.2.2.2.2.2.2))))))
                            else
                              bif (Go.Proofs.Ytkeolcgggondnaa.VX.eqI x.2.1.2.1 (7 : Int)) then
                                ((F_trace_judge_rules_6 (x.2.1, (r12.2.1, (r12.2.2.1, (r12.2.2.2.1, (r12.2.2.2.2.1, (r12.2.2.2.2.2.1, r12.2.2.2.2.2.2)))))))).bind fun r13 =>
                                some (r13.1, (r13.2.1, (r13.2.2.1, (r13.2.2.2.1, (r13.2.2.2.2.1, (r13.2.2.2.2.2.1, r13.2.2.2.2.2.2))))))
                              else
                                bif (Go.Proofs.Ytkeolcgggondnaa.VX.eqI x.2.1.2.1 (11 : Int)) then
                                  ((F_trace_judge_rules_7 (x.2.1, (r12.2.1, (r12.2.2.1, (r12.2.2.2.1, (r12.2.2.2.2.1, (r12.2.2.2.2.2.1, r12.2.2.2.2.2.2)))))))).bind fun r13 =>
                                  some (r13.1, (r13.2.1, (r13.2.2.1, (r13.2.2.2.1, (r13.2.2.2.2.1, (r13.2.2.2.2.2.1, r13.2.2.2.2.2.2))))))
                                else
                                  bif (Go.Proofs.Ytkeolcgggondnaa.VX.eqI x.2.1.2.1 (12 : Int)) then
                                    ((F_trace_judge_rules_8 (x.2.1, (r12.2.1, (r12.2.2.1, (r12.2.2.2.1, (r12.2.2.2.2.1, (r12.2.2.2.2.2.1, r12.2.2.2.2.2.2)))))))).bind fun r13 =>
                                    some (r13.1, (r13.2.1, (r13.2.2.1, (r13.2.2.2.1, (r13.2.2.2.2.1, (r13.2.2.2.2.2.1, r13.2.2.2.2.2.2))))))
                                  else
                                    bif (Go.Proofs.Ytkeolcgggondnaa.VX.eqI x.2.1.2.1 (14 : Int)) then
                                      ((F_trace_judge_rules_9 (x.2.1, (r12.2.1, (r12.2.2.1, (r12.2.2.2.1, (r12.2.2.2.2.1, (r12.2.2.2.2.2.1, r12.2.2.2.2.2.2)))))))).bind fun r13 =>
                                      some (r13.1, (r13.2.1, (r13.2.2.1, (r13.2.2.2.1, (r13.2.2.2.2.1, (r13.2.2.2.2.2.1, r13.2.2.2.2.2.2))))))
                                    else
                                      bif (Go.Proofs.Ytkeolcgggondnaa.VX.eqI x.2.1.2.1 (15 : Int)) then
                                        ((F_trace_judge_rules_10 (x.2.1, (r12.2.1, (r12.2.2.1, (r12.2.2.2.1, (r12.2.2.2.2.1, (r12.2.2.2.2.2.1, r12.2.2.2.2.2.2)))))))).bind fun r13 =>
                                        some (r13.1, (r13.2.1, (r13.2.2.1, (r13.2.2.2.1, (r13.2.2.2.2.1, (r13.2.2.2.2.2.1, r13.2.2.2.2.2.2))))))
                                      else
                                        some (true, (r12.2.1, (r12.2.2.1, (r12.2.2.2.1, (r12.2.2.2.2.1, (r12.2.2.2.2.2.1, r12.2.2.2.2.2.2))))))
              else
                none
            else
              bif (Go.Proofs.Ytkeolcgggondnaa.VX.inb x.2.1.1 8) then
                bif ((Go.Proofs.Ytkeolcgggondnaa.VX.getAt (0 : Int) x.2.2.2.1 (Go.Proofs.Ytkeolcgggondnaa.VX.toN x.2.1.1)) == (0 : Int)) then
                  some (false, (x.2.2.1, (x.2.2.2.1, (x.2.2.2.2.1, (x.2.2.2.2.2.1, (x.2.2.2.2.2.2.1, x.2.2.2.2.2.2.2))))))
                else
                  bif (Bool.not (x.2.1.2.1 == (5 : Int))) then
                    bif (x.2.1.2.2.2.1 != (0 : Int)) then
                      some (false, (x.2.2.1, (x.2.2.2.1, (x.2.2.2.2.1, (x.2.2.2.2.2.1, (x.2.2.2.2.2.2.1, x.2.2.2.2.2.2.2))))))
                    else
                      bif (x.2.1.2.1 != (1 : Int)) then
                        ((F_trace_judge_objs (x.2.1.2.1, (x.2.2.1, (x.2.2.2.1, (x.2.2.2.2.1, (x.2.2.2.2.2.1, (x.2.2.2.2.2.2.1, x.2.2.2.2.2.2.2)))))))).bind fun r12 =>
                        ((F_trace_in (x.2.1.2.2.1, ((0 : Int), (Go.IntKind.wrap Go.IntKind.i64 (r12.1 - (1 : Int))))))).bind fun r13 =>
                        bif (Bool.not r13) then
                          some (false, (r12.2.1, (r12.2.2.1, (r12.2.2.2.1, (r12.2.2.2.2.1, (r12.2.2.2.2.2.1, r12.2.2.2.2.2.2))))))
                        else
                          ((F_trace_judge_began (x.1, (x.2.1, (r12.2.1, (r12.2.2.1, (r12.2.2.2.1, (r12.2.2.2.2.1, (r12.2.2.2.2.2.1, r12.2.2.2.2.2.2))))))))).bind fun r14 =>
                          bif (Bool.not r14.1) then
                            some (false, (r14.2.1, (r14.2.2.1, (r14.2.2.2.1, (r14.2.2.2.2.1, (r14.2.2.2.2.2.1, r14.2.2.2.2.2.2))))))
                          else
                            bif (Go.Proofs.Ytkeolcgggondnaa.VX.eqI x.2.1.2.1 (1 : Int)) then
                              ((F_trace_judge_rules_2 (x.2.1, (r14.2.1, (r14.2.2.1, (r14.2.2.2.1, (r14.2.2.2.2.1, (r14.2.2.2.2.2.1, r14.2.2.2.2.2.2)))))))).bind fun r15 =>
                              some (r15.1, (r14.2.1, (r14.2.2.1, (r14.2.2.2.1, (r14.2.2.2.2.1, (r14.2.2.2.2.2.1, r14.2.2.2.2.2.2))))))
                            else
                              bif (Go.Proofs.Ytkeolcgggondnaa.VX.eqI x.2.1.2.1 (3 : Int)) then
                                ((F_trace_judge_rules_3 (x.2.1, (r14.2.1, (r14.2.2.1, (r14.2.2.2.1, (r14.2.2.2.2.1, (r14.2.2.2.2.2.1, r14.2.2.2.2.2.2)))))))).bind fun r15 =>
                                some (r15.1, (r15.2.1, (r15.2.2.1, (r15.2.2.2.1, (r15.2.2.2.2.1, (r15.2.2.2.2.2.1, r15.2.2.2.2.2.2))))))
                              else
                                bif (Go.Proofs.Ytkeolcgggondnaa.VX.eqI x.2.1.2.1 (5 : Int)) then
                                  ((F_trace_judge_rules_4 (x.2.1, (r14.2.1, (r14.2.2.1, (r14.2.2.2.1, (r14.2.2.2.2.1, (r14.2.2.2.2.2.1, r14.2.2.2.2.2.2)))))))).bind fun r15 =>
                                  some (r15.1, (r15.2.1, (r15.2.2.1, (r15.2.2.2.1, (r15.2.2.2.2.1, (r15.2.2.2.2.2.1, r15.2.2.2.2.2.2))))))
                                else
                                  bif (Go.Proofs.Ytkeolcgggondnaa.VX.eqI x.2.1.2.1 (6 : Int)) then
                                    ((F_trace_judge_rules_5 (x.2.1, (r14.2.1, (r14.2.2.1, (r14.2.2.2.1, (r14.2.2.2.2.1, (r14.2.2.2.2.2.1, r14.2.2.2.2.2.2)))))))).bind fun r15 =>
                                    some (r15.1, (r15.2.1, (r15.2.2.1, (r15.2.2.2.1, (r15.2.2.2.2.1, (r15.2.2.2.2.2.1, r15.2.2.2.2.2.2))))))
                                  else
                                    bif (Go.Proofs.Ytkeolcgggondnaa.VX.eqI x.2.1.2.1 (7 : Int)) then
                                      ((F_trace_judge_rules_6 (x.2.1, (r14.2.1, (r14.2.2.1, (r14.2.2.2.1, (r14.2.2.2.2.1, (r14.2.2.2.2.2.1, r14.2.2.2.2.2.2)))))))).bind fun r15 =>
                                      some (r15.1, (r15.2.1, (r15.2.2.1, (r15.2.2.2.1, (r15.2.2.2.2.1, (r15.2.2.2.2.2.1, r15.2.2.2.2.2.2))))))
                                    else
                                      bif (Go.Proofs.Ytkeolcgggondnaa.VX.eqI x.2.1.2.1 (11 : Int)) then
                                        ((F_trace_judge_rules_7 (x.2.1, (r14.2.1, (r14.2.2.1, (r14.2.2.2.1, (r14.2.2.2.2.1, (r14.2.2.2.2.2.1, r14.2.2.2.2.2.2)))))))).bind fun r15 =>
                                        some (r15.1, (r15.2.1, (r15.2.2.1, (r15.2.2.2.1, (r15.2.2.2.2.1, (r15.2.2.2.2.2.1, r15.2.2.2.2.2.2))))))
                                      else
                                        bif (Go.Proofs.Ytkeolcgggondnaa.VX.eqI x.2.1.2.1 (12 : Int)) then
                                          ((F_trace_judge_rules_8 (x.2.1, (r14.2.1, (r14.2.2.1, (r14.2.2.2.1, (r14.2.2.2.2.1, (r14.2.2.2.2.2.1, r14.2.2.2.2.2.2)))))))).bind fun r15 =>
                                          some (r15.1, (r15.2.1, (r15.2.2.1, (r15.2.2.2.1, (r15.2.2.2.2.1, (r15.2.2.2.2.2.1, r15.2.2.2.2.2.2))))))
                                        else
                                          bif (Go.Proofs.Ytkeolcgggondnaa.VX.eqI x.2.1.2.1 (14 : Int)) then
                                            ((F_trace_judge_rules_9 (x.2.1, (r14.2.1, (r14.2.2.1, (r14.2.2.2.1, (r14.2.2.2.2.1, (r14.2.2.2.2.2.1, r14.2.2.2.2.2.2)))))))).bind fun r15 =>
                                            some (r15.1, (r15.2.1, (r15.2.2.1, (r15.2.2.2.1, (r15.2.2.2.2.1, (r15.2.2.2.2.2.1, r15.2.2.2.2.2.2))))))
                                          else
                                            bif (Go.Proofs.Ytkeolcgggondnaa.VX.eqI x.2.1.2.1 (15 : Int)) then
                                              ((F_trace_judge_rules_10 (x.2.1, (r14.2.1, (r14.2.2.1, (r14.2.2.2.1, (r14.2.2.2.2.1, (r14.2.2.2.2.2.1, r14.2.2.2.2.2.2)))))))).bind fun r15 =>
                                              some (r15.1, (r15.2.1, (r15.2.2.1, (r15.2.2.2.1, (r15.2.2.2.2.1, (r15.2.2.2.2.2.1, r15.2.2.2.2.2.2))))))
                                            else
                                              some (true, (r14.2.1, (r14.2.2.1, (r14.2.2.2.1, (r14.2.2.2.2.1, (r14.2.2.2.2.2.1, r14.2.2.2.2.2.2))))))
                      else
                        ((F_trace_judge_began (x.1, (x.2.1, (x.2.2.1, (x.2.2.2.1, (x.2.2.2.2.1, (x.2.2.2.2.2.1, (x.2.2.2.2.2.2.1, x.2.2.2.2.2.2.2))))))))).bind fun r12 =>
                        bif (Bool.not r12.1) then
                          some (false, (r12.2.1, (r12.2.2.1, (r12.2.2.2.1, (r12.2.2.2.2.1, (r12.2.2.2.2.2.1, r12.2.2.2.2.2.2))))))
                        else
                          bif (Go.Proofs.Ytkeolcgggondnaa.VX.eqI x.2.1.2.1 (1 : Int)) then
                            ((F_trace_judge_rules_2 (x.2.1, (r12.2.1, (r12.2.2.1, (r12.2.2.2.1, (r12.2.2.2.2.1, (r12.2.2.2.2.2.1, r12.2.2.2.2.2.2)))))))).bind fun r13 =>
                            some (r13.1, (r12.2.1, (r12.2.2.1, (r12.2.2.2.1, (r12.2.2.2.2.1, (r12.2.2.2.2.2.1, r12.2.2.2.2.2.2))))))
                          else
                            bif (Go.Proofs.Ytkeolcgggondnaa.VX.eqI x.2.1.2.1 (3 : Int)) then
                              ((F_trace_judge_rules_3 (x.2.1, (r12.2.1, (r12.2.2.1, (r12.2.2.2.1, (r12.2.2.2.2.1, (r12.2.2.2.2.2.1, r12.2.2.2.2.2.2)))))))).bind fun r13 =>
                              some (r13.1, (r13.2.1, (r13.2.2.1, (r13.2.2.2.1, (r13.2.2.2.2.1, (r13.2.2.2.2.2.1, r13.2.2.2.2.2.2))))))
                            else
                              bif (Go.Proofs.Ytkeolcgggondnaa.VX.eqI x.2.1.2.1 (5 : Int)) then
                                ((F_trace_judge_rules_4 (x.2.1, (r12.2.1, (r12.2.2.1, (r12.2.2.2.1, (r12.2.2.2.2.1, (r12.2.2.2.2.2.1, r12.2.2.2.2.2.2)))))))).bind fun r13 =>
                                some (r13.1, (r13.2.1, (r13.2.2.1, (r13.2.2.2.1, (r13.2.2.2.2.1, (r13.2.2.2.2.2.1, r13.2.2.2.2.2.2))))))
                              else
                                bif (Go.Proofs.Ytkeolcgggondnaa.VX.eqI x.2.1.2.1 (6 : Int)) then
                                  ((F_trace_judge_rules_5 (x.2.1, (r12.2.1, (r12.2.2.1, (r12.2.2.2.1, (r12.2.2.2.2.1, (r12.2.2.2.2.2.1, r12.2.2.2.2.2.2)))))))).bind fun r13 =>
                                  some (r13.1, (r13.2.1, (r13.2.2.1, (r13.2.2.2.1, (r13.2.2.2.2.1, (r13.2.2.2.2.2.1, r13.2.2.2.2.2.2))))))
                                else
                                  bif (Go.Proofs.Ytkeolcgggondnaa.VX.eqI x.2.1.2.1 (7 : Int)) then
                                    ((F_trace_judge_rules_6 (x.2.1, (r12.2.1, (r12.2.2.1, (r12.2.2.2.1, (r12.2.2.2.2.1, (r12.2.2.2.2.2.1, r12.2.2.2.2.2.2)))))))).bind fun r13 =>
                                    some (r13.1, (r13.2.1, (r13.2.2.1, (r13.2.2.2.1, (r13.2.2.2.2.1, (r13.2.2.2.2.2.1, r13.2.2.2.2.2.2))))))
                                  else
                                    bif (Go.Proofs.Ytkeolcgggondnaa.VX.eqI x.2.1.2.1 (11 : Int)) then
                                      ((F_trace_judge_rules_7 (x.2.1, (r12.2.1, (r12.2.2.1, (r12.2.2.2.1, (r12.2.2.2.2.1, (r12.2.2.2.2.2.1, r12.2.2.2.2.2.2)))))))).bind fun r13 =>
                                      some (r13.1, (r13.2.1, (r13.2.2.1, (r13.2.2.2.1, (r13.2.2.2.2.1, (r13.2.2.2.2.2.1, r13.2.2.2.2.2.2))))))
                                    else
                                      bif (Go.Proofs.Ytkeolcgggondnaa.VX.eqI x.2.1.2.1 (12 : Int)) then
                                        ((F_trace_judge_rules_8 (x.2.1, (r12.2.1, (r12.2.2.1, (r12.2.2.2.1, (r12.2.2.2.2.1, (r12.2.2.2.2.2.1, r12.2.2.2.2.2.2)))))))).bind fun r13 =>
                                        some (r13.1, (r13.2.1, (r13.2.2.1, (r13.2.2.2.1, (r13.2.2.2.2.1, (r13.2.2.2.2.2.1, r13.2.2.2.2.2.2))))))
                                      else
                                        bif (Go.Proofs.Ytkeolcgggondnaa.VX.eqI x.2.1.2.1 (14 : Int)) then
                                          ((F_trace_judge_rules_9 (x.2.1, (r12.2.1, (r12.2.2.1, (r12.2.2.2.1, (r12.2.2.2.2.1, (r12.2.2.2.2.2.1, r12.2.2.2.2.2.2)))))))).bind fun r13 =>
                                          some (r13.1, (r13.2.1, (r13.2.2.1, (r13.2.2.2.1, (r13.2.2.2.2.1, (r13.2.2.2.2.2.1, r13.2.2.2.2.2.2))))))
                                        else
                                          bif (Go.Proofs.Ytkeolcgggondnaa.VX.eqI x.2.1.2.1 (15 : Int)) then
                                            ((F_trace_judge_rules_10 (x.2.1, (r12.2.1, (r12.2.2.1, (r12.2.2.2.1, (r12.2.2.2.2.1, (r12.2.2.2.2.2.1, r12.2.2.2.2.2.2)))))))).bind fun r13 =>
                                            some (r13.1, (r13.2.1, (r13.2.2.1, (r13.2.2.2.1, (r13.2.2.2.2.1, (r13.2.2.2.2.2.1, r13.2.2.2.2.2.2))))))
                                          else
                                            some (true, (r12.2.1, (r12.2.2.1, (r12.2.2.2.1, (r12.2.2.2.2.1, (r12.2.2.2.2.2.1, r12.2.2.2.2.2.2))))))
                  else
                    bif (x.2.1.2.1 != (1 : Int)) then
                      ((F_trace_judge_objs (x.2.1.2.1, (x.2.2.1, (x.2.2.2.1, (x.2.2.2.2.1, (x.2.2.2.2.2.1, (x.2.2.2.2.2.2.1, x.2.2.2.2.2.2.2)))))))).bind fun r12 =>
                      ((F_trace_in (x.2.1.2.2.1, ((0 : Int), (Go.IntKind.wrap Go.IntKind.i64 (r12.1 - (1 : Int))))))).bind fun r13 =>
                      bif (Bool.not r13) then
                        some (false, (r12.2.1, (r12.2.2.1, (r12.2.2.2.1, (r12.2.2.2.2.1, (r12.2.2.2.2.2.1, r12.2.2.2.2.2.2))))))
                      else
                        ((F_trace_judge_began (x.1, (x.2.1, (r12.2.1, (r12.2.2.1, (r12.2.2.2.1, (r12.2.2.2.2.1, (r12.2.2.2.2.2.1, r12.2.2.2.2.2.2))))))))).bind fun r14 =>
                        bif (Bool.not r14.1) then
                          some (false, (r14.2.1, (r14.2.2.1, (r14.2.2.2.1, (r14.2.2.2.2.1, (r14.2.2.2.2.2.1, r14.2.2.2.2.2.2))))))
                        else
                          bif (Go.Proofs.Ytkeolcgggondnaa.VX.eqI x.2.1.2.1 (1 : Int)) then
                            ((F_trace_judge_rules_2 (x.2.1, (r14.2.1, (r14.2.2.1, (r14.2.2.2.1, (r14.2.2.2.2.1, (r14.2.2.2.2.2.1, r14.2.2.2.2.2.2)))))))).bind fun r15 =>
                            some (r15.1, (r14.2.1, (r14.2.2.1, (r14.2.2.2.1, (r14.2.2.2.2.1, (r14.2.2.2.2.2.1, r14.2.2.2.2.2.2))))))
                          else
                            bif (Go.Proofs.Ytkeolcgggondnaa.VX.eqI x.2.1.2.1 (3 : Int)) then
                              ((F_trace_judge_rules_3 (x.2.1, (r14.2.1, (r14.2.2.1, (r14.2.2.2.1, (r14.2.2.2.2.1, (r14.2.2.2.2.2.1, r14.2.2.2.2.2.2)))))))).bind fun r15 =>
                              some (r15.1, (r15.2.1, (r15.2.2.1, (r15.2.2.2.1, (r15.2.2.2.2.1, (r15.2.2.2.2.2.1, r15.2.2.2.2.2.2))))))
                            else
                              bif (Go.Proofs.Ytkeolcgggondnaa.VX.eqI x.2.1.2.1 (5 : Int)) then
                                ((F_trace_judge_rules_4 (x.2.1, (r14.2.1, (r14.2.2.1, (r14.2.2.2.1, (r14.2.2.2.2.1, (r14.2.2.2.2.2.1, r14.2.2.2.2.2.2)))))))).bind fun r15 =>
                                some (r15.1, (r15.2.1, (r15.2.2.1, (r15.2.2.2.1, (r15.2.2.2.2.1, (r15.2.2.2.2.2.1, r15.2.2.2.2.2.2))))))
                              else
                                bif (Go.Proofs.Ytkeolcgggondnaa.VX.eqI x.2.1.2.1 (6 : Int)) then
                                  ((F_trace_judge_rules_5 (x.2.1, (r14.2.1, (r14.2.2.1, (r14.2.2.2.1, (r14.2.2.2.2.1, (r14.2.2.2.2.2.1, r14.2.2.2.2.2.2)))))))).bind fun r15 =>
                                  some (r15.1, (r15.2.1, (r15.2.2.1, (r15.2.2.2.1, (r15.2.2.2.2.1, (r15.2.2.2.2.2.1, r15.2.2.2.2.2.2))))))
                                else
                                  bif (Go.Proofs.Ytkeolcgggondnaa.VX.eqI x.2.1.2.1 (7 : Int)) then
                                    ((F_trace_judge_rules_6 (x.2.1, (r14.2.1, (r14.2.2.1, (r14.2.2.2.1, (r14.2.2.2.2.1, (r14.2.2.2.2.2.1, r14.2.2.2.2.2.2)))))))).bind fun r15 =>
                                    some (r15.1, (r15.2.1, (r15.2.2.1, (r15.2.2.2.1, (r15.2.2.2.2.1, (r15.2.2.2.2.2.1, r15.2.2.2.2.2.2))))))
                                  else
                                    bif (Go.Proofs.Ytkeolcgggondnaa.VX.eqI x.2.1.2.1 (11 : Int)) then
                                      ((F_trace_judge_rules_7 (x.2.1, (r14.2.1, (r14.2.2.1, (r14.2.2.2.1, (r14.2.2.2.2.1, (r14.2.2.2.2.2.1, r14.2.2.2.2.2.2)))))))).bind fun r15 =>
                                      some (r15.1, (r15.2.1, (r15.2.2.1, (r15.2.2.2.1, (r15.2.2.2.2.1, (r15.2.2.2.2.2.1, r15.2.2.2.2.2.2))))))
                                    else
                                      bif (Go.Proofs.Ytkeolcgggondnaa.VX.eqI x.2.1.2.1 (12 : Int)) then
                                        ((F_trace_judge_rules_8 (x.2.1, (r14.2.1, (r14.2.2.1, (r14.2.2.2.1, (r14.2.2.2.2.1, (r14.2.2.2.2.2.1, r14.2.2.2.2.2.2)))))))).bind fun r15 =>
                                        some (r15.1, (r15.2.1, (r15.2.2.1, (r15.2.2.2.1, (r15.2.2.2.2.1, (r15.2.2.2.2.2.1, r15.2.2.2.2.2.2))))))
                                      else
                                        bif (Go.Proofs.Ytkeolcgggondnaa.VX.eqI x.2.1.2.1 (14 : Int)) then
                                          ((F_trace_judge_rules_9 (x.2.1, (r14.2.1, (r14.2.2.1, (r14.2.2.2.1, (r14.2.2.2.2.1, (r14.2.2.2.2.2.1, r14.2.2.2.2.2.2)))))))).bind fun r15 =>
                                          some (r15.1, (r15.2.1, (r15.2.2.1, (r15.2.2.2.1, (r15.2.2.2.2.1, (r15.2.2.2.2.2.1, r15.2.2.2.2.2.2))))))
                                        else
                                          bif (Go.Proofs.Ytkeolcgggondnaa.VX.eqI x.2.1.2.1 (15 : Int)) then
                                            ((F_trace_judge_rules_10 (x.2.1, (r14.2.1, (r14.2.2.1, (r14.2.2.2.1, (r14.2.2.2.2.1, (r14.2.2.2.2.2.1, r14.2.2.2.2.2.2)))))))).bind fun r15 =>
                                            some (r15.1, (r15.2.1, (r15.2.2.1, (r15.2.2.2.1, (r15.2.2.2.2.1, (r15.2.2.2.2.2.1, r15.2.2.2.2.2.2))))))
                                          else
                                            some (true, (r14.2.1, (r14.2.2.1, (r14.2.2.2.1, (r14.2.2.2.2.1, (r14.2.2.2.2.2.1, r14.2.2.2.2.2.2))))))
                    else
                      ((F_trace_judge_began (x.1, (x.2.1, (x.2.2.1, (x.2.2.2.1, (x.2.2.2.2.1, (x.2.2.2.2.2.1, (x.2.2.2.2.2.2.1, x.2.2.2.2.2.2.2))))))))).bind fun r12 =>
                      bif (Bool.not r12.1) then
                        some (false, (r12.2.1, (r12.2.2.1, (r12.2.2.2.1, (r12.2.2.2.2.1, (r12.2.2.2.2.2.1, r12.2.2.2.2.2.2))))))
                      else
                        bif (Go.Proofs.Ytkeolcgggondnaa.VX.eqI x.2.1.2.1 (1 : Int)) then
                          ((F_trace_judge_rules_2 (x.2.1, (r12.2.1, (r12.2.2.1, (r12.2.2.2.1, (r12.2.2.2.2.1, (r12.2.2.2.2.2.1, r12.2.2.2.2.2.2)))))))).bind fun r13 =>
                          some (r13.1, (r12.2.1, (r12.2.2.1, (r12.2.2.2.1, (r12.2.2.2.2.1, (r12.2.2.2.2.2.1, r12.2.2.2.2.2.2))))))
                        else
                          bif (Go.Proofs.Ytkeolcgggondnaa.VX.eqI x.2.1.2.1 (3 : Int)) then
                            ((F_trace_judge_rules_3 (x.2.1, (r12.2.1, (r12.2.2.1, (r12.2.2.2.1, (r12.2.2.2.2.1, (r12.2.2.2.2.2.1, r12.2.2.2.2.2.2)))))))).bind fun r13 =>
                            some (r13.1, (r13.2.1, (r13.2.2.1, (r13.2.2.2.1, (r13.2.2.2.2.1, (r13.2.2.2.2.2.1, r13.2.2.2.2.2.2))))))
                          else
                            bif (Go.Proofs.Ytkeolcgggondnaa.VX.eqI x.2.1.2.1 (5 : Int)) then
                              ((F_trace_judge_rules_4 (x.2.1, (r12.2.1, (r12.2.2.1, (r12.2.2.2.1, (r12.2.2.2.2.1, (r12.2.2.2.2.2.1, r12.2.2.2.2.2.2)))))))).bind fun r13 =>
                              some (r13.1, (r13.2.1, (r13.2.2.1, (r13.2.2.2.1, (r13.2.2.2.2.1, (r13.2.2.2.2.2.1, r13.2.2.2.2.2.2))))))
                            else
                              bif (Go.Proofs.Ytkeolcgggondnaa.VX.eqI x.2.1.2.1 (6 : Int)) then
                                ((F_trace_judge_rules_5 (x.2.1, (r12.2.1, (r12.2.2.1, (r12.2.2.2.1, (r12.2.2.2.2.1, (r12.2.2.2.2.2.1, r12.2.2.2.2.2.2)))))))).bind fun r13 =>
                                some (r13.1, (r13.2.1, (r13.2.2.1, (r13.2.2.2.1, (r13.2.2.2.2.1, (r13.2.2.2.2.2.1, r13.2.2.2.2.2.2))))))
                              else
                                bif (Go.Proofs.Ytkeolcgggondnaa.VX.eqI x.2.1.2.1 (7 : Int)) then
                                  ((F_trace_judge_rules_6 (x.2.1, (r12.2.1, (r12.2.2.1, (r12.2.2.2.1, (r12.2.2.2.2.1, (r12.2.2.2.2.2.1, r12.2.2.2.2.2.2)))))))).bind fun r13 =>
                                  some (r13.1, (r13.2.1, (r13.2.2.1, (r13.2.2.2.1, (r13.2.2.2.2.1, (r13.2.2.2.2.2.1, r13.2.2.2.2.2.2))))))
                                else
                                  bif (Go.Proofs.Ytkeolcgggondnaa.VX.eqI x.2.1.2.1 (11 : Int)) then
                                    ((F_trace_judge_rules_7 (x.2.1, (r12.2.1, (r12.2.2.1, (r12.2.2.2.1, (r12.2.2.2.2.1, (r12.2.2.2.2.2.1, r12.2.2.2.2.2.2)))))))).bind fun r13 =>
                                    some (r13.1, (r13.2.1, (r13.2.2.1, (r13.2.2.2.1, (r13.2.2.2.2.1, (r13.2.2.2.2.2.1, r13.2.2.2.2.2.2))))))
                                  else
                                    bif (Go.Proofs.Ytkeolcgggondnaa.VX.eqI x.2.1.2.1 (12 : Int)) then
                                      ((F_trace_judge_rules_8 (x.2.1, (r12.2.1, (r12.2.2.1, (r12.2.2.2.1, (r12.2.2.2.2.1, (r12.2.2.2.2.2.1, r12.2.2.2.2.2.2)))))))).bind fun r13 =>
                                      some (r13.1, (r13.2.1, (r13.2.2.1, (r13.2.2.2.1, (r13.2.2.2.2.1, (r13.2.2.2.2.2.1, r13.2.2.2.2.2.2))))))
                                    else
                                      bif (Go.Proofs.Ytkeolcgggondnaa.VX.eqI x.2.1.2.1 (14 : Int)) then
                                        ((F_trace_judge_rules_9 (x.2.1, (r12.2.1, (r12.2.2.1, (r12.2.2.2.1, (r12.2.2.2.2.1, (r12.2.2.2.2.2.1, r12.2.2.2.2.2.2)))))))).bind fun r13 =>
                                        some (r13.1, (r13.2.1, (r13.2.2.1, (r13.2.2.2.1, (r13.2.2.2.2.1, (r13.2.2.2.2.2.1, r13.2.2.2.2.2.2))))))
                                      else
                                        bif (Go.Proofs.Ytkeolcgggondnaa.VX.eqI x.2.1.2.1 (15 : Int)) then
                                          ((F_trace_judge_rules_10 (x.2.1, (r12.2.1, (r12.2.2.1, (r12.2.2.2.1, (r12.2.2.2.2.1, (r12.2.2.2.2.2.1, r12.2.2.2.2.2.2)))))))).bind fun r13 =>
                                          some (r13.1, (r13.2.1, (r13.2.2.1, (r13.2.2.2.1, (r13.2.2.2.2.1, (r13.2.2.2.2.2.1, r13.2.2.2.2.2.2))))))
                                        else
                                          some (true, (r12.2.1, (r12.2.2.1, (r12.2.2.2.1, (r12.2.2.2.2.1, (r12.2.2.2.2.2.1, r12.2.2.2.2.2.2))))))
              else
                none
noncomputable def cx_trace_judge_right : Ctx := { tb := mkTb T2.tbl, fx := [(32, [], Spec.shp si_trace_in so_trace_in F_trace_in), (79, [], Spec.thin (Spec.shp si_trace_judge_begins so_trace_judge_begins F_trace_judge_begins)), (80, [], Spec.thin (Spec.shp si_trace_judge_objs so_trace_judge_objs F_trace_judge_objs)), (81, [], Spec.thin (Spec.shp si_trace_judge_began so_trace_judge_began F_trace_judge_began)), (50, [], Spec.shpR si_trace_judge_rules_2 so_trace_judge_rules_2 F_trace_judge_rules_2), (51, [], Spec.thin (Spec.shp si_trace_judge_rules_3 so_trace_judge_rules_3 F_trace_judge_rules_3)), (53, [], Spec.thin (Spec.shp si_trace_judge_rules_4 so_trace_judge_rules_4 F_trace_judge_rules_4)), (54, [], Spec.thin (Spec.shp si_trace_judge_rules_5 so_trace_judge_rules_5 F_trace_judge_rules_5)), (55, [], Spec.thin (Spec.shp si_trace_judge_rules_6 so_trace_judge_rules_6 F_trace_judge_rules_6)), (56, [], Spec.thin (Spec.shp si_trace_judge_rules_7 so_trace_judge_rules_7 F_trace_judge_rules_7)), (57, [], Spec.thin (Spec.shp si_trace_judge_rules_8 so_trace_judge_rules_8 F_trace_judge_rules_8)), (58, [], Spec.thin (Spec.shp si_trace_judge_rules_9 so_trace_judge_rules_9 F_trace_judge_rules_9)), (59, [], Spec.thin (Spec.shp si_trace_judge_rules_10 so_trace_judge_rules_10 F_trace_judge_rules_10))], sum := [], nt := 106, pin := 7, nr := true, ys := [] }
theorem F_trace_judge_right_ok : Sound Try.prog 60 (Spec.shp si_trace_judge_right so_trace_judge_right F_trace_judge_right) :=
  Sound.shp (C := cx_trace_judge_right) (fn := Try.f60) (by kernel_rfl) (c := bodyOf Try.f60) (by kernel_rfl) (by decide) (ctxOK mixed tbl_ok rfl ⟨F_trace_in_ok, F_trace_judge_begins_ok.thin, F_trace_judge_objs_ok.thin, F_trace_judge_began_ok.thin, F_trace_judge_rules_2_rd, F_trace_judge_rules_3_ok.thin, F_trace_judge_rules_4_ok.thin, F_trace_judge_rules_5_ok.thin, F_trace_judge_rules_6_ok.thin, F_trace_judge_rules_7_ok.thin, F_trace_judge_rules_8_ok.thin, F_trace_judge_rules_9_ok.thin, F_trace_judge_rules_10_ok.thin, trivial⟩ trivial) (SumOK.of trivial) (by kernel_rfl) si_trace_judge_right so_trace_judge_right rfl (by decide) (by decide) rfl (by decide) rfl F_trace_judge_right (fun x => by kernel_rfl)
abbrev si_trace_judge_may : Shape := { sl := [(0, (.ptr 0 [])), (1, (.hole (.slice (.pair (.int .i64) (.pair (.int .i64) (.pair (.int .i64) (.pair (.int .i64) (.int .i64)))))))), (2, (.hole (.pair (.int .i64) (.pair (.int .i64) (.pair (.int .i64) (.pair (.int .i64) (.int .i64)))))))], bl := [.var (.pr (.hole (.slice (.int .i64))) (.pr (.mp 1) (.pr (.hole (.arr 8 (.int .i64))) (.pr (.hole (.int .i64)) (.pr (.mp 2) (.pr (.mp 3) (.mp 4))))))), .mp (.pair (.int .i64) (.int .i64)) (.int .i64), .mp (.int .i64) (.int .i64), .mp (.int .i64) (.int .i64), .fm [1, 3, 5, 6, 7, 11, 12, 14, 15] (.cons (.fn 50 .nil (.cons (.ptr 5 []) .nil)) (.cons (.fn 51 .nil (.cons (.ptr 5 []) .nil)) (.cons (.fn 53 .nil (.cons (.ptr 5 []) .nil)) (.cons (.fn 54 .nil (.cons (.ptr 5 []) .nil)) (.cons (.fn 55 .nil (.cons (.ptr 5 []) .nil)) (.cons (.fn 56 .nil (.cons (.ptr 6 []) .nil)) (.cons (.fn 57 .nil (.cons (.ptr 6 []) .nil)) (.cons (.fn 58 .nil (.cons (.ptr 5 []) .nil)) (.cons (.fn 59 .nil (.cons (.ptr 5 []) .nil)) .nil))))))))), .var (.ptr 0 []), .var (.fn 48 .nil (.cons (.ptr 5 []) .nil))], ts := [(.slice (.pair (.int .i64) (.pair (.int .i64) (.pair (.int .i64) (.pair (.int .i64) (.int .i64)))))), (.pair (.int .i64) (.pair (.int .i64) (.pair (.int .i64) (.pair (.int .i64) (.int .i64))))), (.slice (.int .i64)), (.arr 8 (.int .i64)), (.int .i64), (.slice (.pair (.pair (.int .i64) (.int .i64)) (.int .i64))), (.slice (.pair (.int .i64) (.int .i64))), (.slice (.pair (.int .i64) (.int .i64)))], pin := 0 }
abbrev so_trace_judge_may : Shape := { sl := [(0, (.hole .bool))], bl := [.var (.pr (.hole (.slice (.int .i64))) (.pr (.mp 1) (.pr (.hole (.arr 8 (.int .i64))) (.pr (.hole (.int .i64)) (.pr (.mp 2) (.pr (.mp 3) (.mp 4))))))), .mp (.pair (.int .i64) (.int .i64)) (.int .i64), .mp (.int .i64) (.int .i64), .mp (.int .i64) (.int .i64), .fm [1, 3, 5, 6, 7, 11, 12, 14, 15] (.cons (.fn 50 .nil (.cons (.ptr 5 []) .nil)) (.cons (.fn 51 .nil (.cons (.ptr 5 []) .nil)) (.cons (.fn 53 .nil (.cons (.ptr 5 []) .nil)) (.cons (.fn 54 .nil (.cons (.ptr 5 []) .nil)) (.cons (.fn 55 .nil (.cons (.ptr 5 []) .nil)) (.cons (.fn 56 .nil (.cons (.ptr 6 []) .nil)) (.cons (.fn 57 .nil (.cons (.ptr 6 []) .nil)) (.cons (.fn 58 .nil (.cons (.ptr 5 []) .nil)) (.cons (.fn 59 .nil (.cons (.ptr 5 []) .nil)) .nil))))))))), .var (.ptr 0 []), .var (.fn 48 .nil (.cons (.ptr 5 []) .nil))], ts := [.bool, (.slice (.int .i64)), (.arr 8 (.int .i64)), (.int .i64), (.slice (.pair (.pair (.int .i64) (.int .i64)) (.int .i64))), (.slice (.pair (.int .i64) (.int .i64))), (.slice (.pair (.int .i64) (.int .i64)))], pin := 7 }
noncomputable def F_trace_judge_may (x : (List ((Int × (Int × (Int × (Int × Int))))) × (Int × (Int × (Int × (Int × Int)))) × List (Int) × List (Int) × Int × List (((Int × Int) × Int)) × List ((Int × Int)) × List ((Int × Int)))) : Option (Bool × List (Int) × List (Int) × Int × List (((Int × Int) × Int)) × List ((Int × Int)) × List ((Int × Int))) :=
  ((F_trace_judge_right (x.1, (x.2.1, (x.2.2.1, (x.2.2.2.1, (x.2.2.2.2.1, (x.2.2.2.2.2.1, (x.2.2.2.2.2.2.1, x.2.2.2.2.2.2.2))))))))).bind fun r8 =>
  bif (Bool.not r8.1) then
    some (false, (r8.2.1, (r8.2.2.1, (r8.2.2.2.1, (r8.2.2.2.2.1, (r8.2.2.2.2.2.1, r8.2.2.2.2.2.2))))))
  else
    bif (Go.Proofs.Ytkeolcgggondnaa.VX.inb (Go.Proofs.Ytkeolcgggondnaa.VX.natI (@Go.Proofs.Ytkeolcgggondnaa.VX.mpos ((Int × Int)) (Int) (Go.Proofs.Ytkeolcgggondnaa.VX.Ty.beq (.pair (.int .i64) (.int .i64))) (x.2.1.2.1, x.2.1.2.2.1) r8.2.2.2.2.1)) (List.length (@Go.Proofs.Ytkeolcgggondnaa.VX.mput ((Int × Int)) (Int) (Go.Proofs.Ytkeolcgggondnaa.VX.Ty.beq (.pair (.int .i64) (.int .i64))) (x.2.1.2.1, x.2.1.2.2.1) (@Go.Proofs.Ytkeolcgggondnaa.VX.mlook ((Int × Int)) (Int) (Go.Proofs.Ytkeolcgggondnaa.VX.Ty.beq (.pair (.int .i64) (.int .i64))) (Go.Proofs.Ytkeolcgggondnaa.VX.Ty.zero (.int .i64)) (x.2.1.2.1, x.2.1.2.2.1) r8.2.2.2.2.1) r8.2.2.2.2.1))) then
      bif (Go.Proofs.Ytkeolcgggondnaa.VX.inb x.2.1.1 8) then
        bif (x.2.1.2.1 == (0 : Int)) then
          some (true, (r8.2.1, ((List.set r8.2.2.1 (Go.Proofs.Ytkeolcgggondnaa.VX.toN x.2.1.1) (Go.IntKind.wrap Go.IntKind.i64 ((((List.length x.1) : Nat) : Int) + (1 : Int)))), ((Go.IntKind.wrap Go.IntKind.i64 (r8.2.2.2.1 + (1 : Int))), ((Go.Proofs.Ytkeolcgggondnaa.VX.mset (@Go.Proofs.Ytkeolcgggondnaa.VX.mput ((Int × Int)) (Int) (Go.Proofs.Ytkeolcgggondnaa.VX.Ty.beq (.pair (.int .i64) (.int .i64))) (x.2.1.2.1, x.2.1.2.2.1) (@Go.Proofs.Ytkeolcgggondnaa.VX.mlook ((Int × Int)) (Int) (Go.Proofs.Ytkeolcgggondnaa.VX.Ty.beq (.pair (.int .i64) (.int .i64))) (Go.Proofs.Ytkeolcgggondnaa.VX.Ty.zero (.int .i64)) (x.2.1.2.1, x.2.1.2.2.1) r8.2.2.2.2.1) r8.2.2.2.2.1) (Go.Proofs.Ytkeolcgggondnaa.VX.toN (Go.Proofs.Ytkeolcgggondnaa.VX.natI (@Go.Proofs.Ytkeolcgggondnaa.VX.mpos ((Int × Int)) (Int) (Go.Proofs.Ytkeolcgggondnaa.VX.Ty.beq (.pair (.int .i64) (.int .i64))) (x.2.1.2.1, x.2.1.2.2.1) r8.2.2.2.2.1))) (Go.IntKind.wrap Go.IntKind.i64 ((@Go.Proofs.Ytkeolcgggondnaa.VX.mlook ((Int × Int)) (Int) (Go.Proofs.Ytkeolcgggondnaa.VX.Ty.beq (.pair (.int .i64) (.int .i64))) (Go.Proofs.Ytkeolcgggondnaa.VX.Ty.zero (.int .i64)) (x.2.1.2.1, x.2.1.2.2.1) r8.2.2.2.2.1) + (1 : Int)))), (r8.2.2.2.2.2.1, r8.2.2.2.2.2.2))))))
        else
          bif (x.2.1.2.1 == (13 : Int)) then
            bif ((@Go.Proofs.Ytkeolcgggondnaa.VX.mlook (Int) (Int) (Go.Proofs.Ytkeolcgggondnaa.VX.Ty.beq (.int .i64)) (Go.Proofs.Ytkeolcgggondnaa.VX.Ty.zero (.int .i64)) x.2.1.2.2.1 r8.2.2.2.2.2.1) == (0 : Int)) then
              some (true, (r8.2.1, ((List.set r8.2.2.1 (Go.Proofs.Ytkeolcgggondnaa.VX.toN x.2.1.1) (Go.IntKind.wrap Go.IntKind.i64 ((((List.length x.1) : Nat) : Int) + (1 : Int)))), (r8.2.2.2.1, ((Go.Proofs.Ytkeolcgggondnaa.VX.mset (@Go.Proofs.Ytkeolcgggondnaa.VX.mput ((Int × Int)) (Int) (Go.Proofs.Ytkeolcgggondnaa.VX.Ty.beq (.pair (.int .i64) (.int .i64))) (x.2.1.2.1, x.2.1.2.2.1) (@Go.Proofs.Ytkeolcgggondnaa.VX.mlook ((Int × Int)) (Int) (Go.Proofs.Ytkeolcgggondnaa.VX.Ty.beq (.pair (.int .i64) (.int .i64))) (Go.Proofs.Ytkeolcgggondnaa.VX.Ty.zero (.int .i64)) (x.2.1.2.1, x.2.1.2.2.1) r8.2.2.2.2.1) r8.2.2.2.2.1) (Go.Proofs.Ytkeolcgggondnaa.VX.toN (Go.Proofs.Ytkeolcgggondnaa.VX.natI (@Go.Proofs.Ytkeolcgggondnaa.VX.mpos ((Int × Int)) (Int) (Go.Proofs.Ytkeolcgggondnaa.VX.Ty.beq (.pair (.int .i64) (.int .i64))) (x.2.1.2.1, x.2.1.2.2.1) r8.2.2.2.2.1))) (Go.IntKind.wrap Go.IntKind.i64 ((@Go.Proofs.Ytkeolcgggondnaa.VX.mlook ((Int × Int)) (Int) (Go.Proofs.Ytkeolcgggondnaa.VX.Ty.beq (.pair (.int .i64) (.int .i64))) (Go.Proofs.Ytkeolcgggondnaa.VX.Ty.zero (.int .i64)) (x.2.1.2.1, x.2.1.2.2.1) r8.2.2.2.2.1) + (1 : Int)))), ((@Go.Proofs.Ytkeolcgggondnaa.VX.mput (Int) (Int) (Go.Proofs.Ytkeolcgggondnaa.VX.Ty.beq (.int .i64)) x.2.1.2.2.1 (Go.IntKind.wrap Go.IntKind.i64 (x.2.1.1 + (1 : Int))) r8.2.2.2.2.2.1), r8.2.2.2.2.2.2))))))
            else
              some (true, (r8.2.1, ((List.set r8.2.2.1 (Go.Proofs.Ytkeolcgggondnaa.VX.toN x.2.1.1) (Go.IntKind.wrap Go.IntKind.i64 ((((List.length x.1) : Nat) : Int) + (1 : Int)))), (r8.2.2.2.1, ((Go.Proofs.Ytkeolcgggondnaa.VX.mset (@Go.Proofs.Ytkeolcgggondnaa.VX.mput ((Int × Int)) (Int) (Go.Proofs.Ytkeolcgggondnaa.VX.Ty.beq (.pair (.int .i64) (.int .i64))) (x.2.1.2.1, x.2.1.2.2.1) (@Go.Proofs.Ytkeolcgggondnaa.VX.mlook ((Int × Int)) (Int) (Go.Proofs.Ytkeolcgggondnaa.VX.Ty.beq (.pair (.int .i64) (.int .i64))) (Go.Proofs.Ytkeolcgggondnaa.VX.Ty.zero (.int .i64)) (x.2.1.2.1, x.2.1.2.2.1) r8.2.2.2.2.1) r8.2.2.2.2.1) (Go.Proofs.Ytkeolcgggondnaa.VX.toN (Go.Proofs.Ytkeolcgggondnaa.VX.natI (@Go.Proofs.Ytkeolcgggondnaa.VX.mpos ((Int × Int)) (Int) (Go.Proofs.Ytkeolcgggondnaa.VX.Ty.beq (.pair (.int .i64) (.int .i64))) (x.2.1.2.1, x.2.1.2.2.1) r8.2.2.2.2.1))) (Go.IntKind.wrap Go.IntKind.i64 ((@Go.Proofs.Ytkeolcgggondnaa.VX.mlook ((Int × Int)) (Int) (Go.Proofs.Ytkeolcgggondnaa.VX.Ty.beq (.pair (.int .i64) (.int .i64))) (Go.Proofs.Ytkeolcgggondnaa.VX.Ty.zero (.int .i64)) (x.2.1.2.1, x.2.1.2.2.1) r8.2.2.2.2.1) + (1 : Int)))), (r8.2.2.2.2.2.1, r8.2.2.2.2.2.2))))))
          else
            some (true, (r8.2.1, ((List.set r8.2.2.1 (Go.Proofs.Ytkeolcgggondnaa.VX.toN x.2.1.1) (Go.IntKind.wrap Go.IntKind.i64 ((((List.length x.1) : Nat) : Int) + (1 : Int)))), (r8.2.2.2.1, ((Go.Proofs.Ytkeolcgggondnaa.VX.mset (@Go.Proofs.Ytkeolcgggondnaa.VX.mput ((Int × Int)) (Int) (Go.Proofs.Ytkeolcgggondnaa.VX.Ty.beq (.pair (.int .i64) (.int .i64))) (x.2.1.2.1, x.2.1.2.2.1) (@Go.Proofs.Ytkeolcgggondnaa.VX.mlook ((Int × Int)) (Int) (Go.Proofs.Ytkeolcgggondnaa.VX.Ty.beq (.pair (.int .i64) (.int .i64))) (Go.Proofs.Ytkeolcgggondnaa.VX.Ty.zero (.int .i64)) (x.2.1.2.1, x.2.1.2.2.1) r8.2.2.2.2.1) r8.2.2.2.2.1) (Go.Proofs.Ytkeolcgggondnaa.VX.toN (Go.Proofs.Ytkeolcgggondnaa.VX.natI (@Go.Proofs.Ytkeolcgggondnaa.VX.mpos ((Int × Int)) (Int) (Go.Proofs.Ytkeolcgggondnaa.VX.Ty.beq (.pair (.int .i64) (.int .i64))) (x.2.1.2.1, x.2.1.2.2.1) r8.2.2.2.2.1))) (Go.IntKind.wrap Go.IntKind.i64 ((@Go.Proofs.Ytkeolcgggondnaa.VX.mlook ((Int × Int)) (Int) (Go.Proofs.Ytkeolcgggondnaa.VX.Ty.beq (.pair (.int .i64) (.int .i64))) (Go.Proofs.Ytkeolcgggondnaa.VX.Ty.zero (.int .i64)) (x.2.1.2.1, x.2.1.2.2.1) r8.2.2.2.2.1) + (1 : Int)))), (r8.2.2.2.2.2.1, r8.2.2.2.2.2.2))))))
      else
        none
    else
      none
noncomputable def cx_trace_judge_may : Ctx := { tb := mkTb T2.tbl, fx := [(60, [], Spec.thin (Spec.shp si_trace_judge_right so_trace_judge_right F_trace_judge_right))], sum := [], nt := 64, pin := 7, nr := true, ys := [] }
theorem F_trace_judge_may_ok : Sound Try.prog 35 (Spec.shp si_trace_judge_may so_trace_judge_may F_trace_judge_may) :=
  Sound.shp (C := cx_trace_judge_may) (fn := Try.f35) (by kernel_rfl) (c := bodyOf Try.f35) (by kernel_rfl) (by decide) (ctxOK mixed tbl_ok rfl ⟨F_trace_judge_right_ok.thin, trivial⟩ trivial) (SumOK.of trivial) (by kernel_rfl) si_trace_judge_may so_trace_judge_may rfl (by decide) (by decide) rfl (by decide) rfl F_trace_judge_may (fun x => by kernel_rfl)
abbrev sh_trace_Wrong_7 : Shape := { sl := [(1, (.hole (.slice (.pair (.int .i64) (.pair (.int .i64) (.pair (.int .i64) (.pair (.int .i64) (.int .i64)))))))), (6, (.ptr 0 [])), (27, (.hole (.slice (.pair (.int .i64) (.pair (.int .i64) (.pair (.int .i64) (.pair (.int .i64) (.int .i64)))))))), (28, (.hole (.int .i64))), (29, (.hole (.int .i64)))], bl := [.var (.pr (.hole (.slice (.int .i64))) (.pr (.mp 1) (.pr (.hole (.arr 8 (.int .i64))) (.pr (.hole (.int .i64)) (.pr (.mp 2) (.pr (.mp 3) (.mp 4))))))), .mp (.pair (.int .i64) (.int .i64)) (.int .i64), .mp (.int .i64) (.int .i64), .mp (.int .i64) (.int .i64), .fm [1, 3, 5, 6, 7, 11, 12, 14, 15] (.cons (.fn 50 .nil (.cons (.ptr 5 []) .nil)) (.cons (.fn 51 .nil (.cons (.ptr 5 []) .nil)) (.cons (.fn 53 .nil (.cons (.ptr 5 []) .nil)) (.cons (.fn 54 .nil (.cons (.ptr 5 []) .nil)) (.cons (.fn 55 .nil (.cons (.ptr 5 []) .nil)) (.cons (.fn 56 .nil (.cons (.ptr 6 []) .nil)) (.cons (.fn 57 .nil (.cons (.ptr 6 []) .nil)) (.cons (.fn 58 .nil (.cons (.ptr 5 []) .nil)) (.cons (.fn 59 .nil (.cons (.ptr 5 []) .nil)) .nil))))))))), .var (.ptr 0 []), .var (.fn 48 .nil (.cons (.ptr 5 []) .nil))], ts := [(.slice (.pair (.int .i64) (.pair (.int .i64) (.pair (.int .i64) (.pair (.int .i64) (.int .i64)))))), (.slice (.pair (.int .i64) (.pair (.int .i64) (.pair (.int .i64) (.pair (.int .i64) (.int .i64)))))), (.int .i64), (.int .i64), (.slice (.int .i64)), (.arr 8 (.int .i64)), (.int .i64), (.slice (.pair (.pair (.int .i64) (.int .i64)) (.int .i64))), (.slice (.pair (.int .i64) (.int .i64))), (.slice (.pair (.int .i64) (.int .i64)))], pin := 0 }
abbrev es_trace_Wrong_7 : List (ETag × Shape) := [(.ret, { sl := [(4, (.hole (.int .i64))), (5, (.hole (.int .i64)))], bl := [], ts := [(.int .i64), (.int .i64)], pin := 0 }), (.exit 0, { sl := [], bl := [], ts := [], pin := 0 })]
noncomputable def L_trace_Wrong_7 (x : (List ((Int × (Int × (Int × (Int × Int))))) × List ((Int × (Int × (Int × (Int × Int))))) × Int × Int × List (Int) × List (Int) × Int × List (((Int × Int) × Int)) × List ((Int × Int)) × List ((Int × Int)))) : Option ((List ((Int × (Int × (Int × (Int × Int))))) × List ((Int × (Int × (Int × (Int × Int))))) × Int × Int × List (Int) × List (Int) × Int × List (((Int × Int) × Int)) × List ((Int × Int)) × List ((Int × Int))) ⊕ ((Int × Int) ⊕ Unit)) :=
  bif (decide (x.2.2.2.1 < x.2.2.1)) then
    bif (Go.Proofs.Ytkeolcgggondnaa.VX.inb x.2.2.2.1 (List.length x.2.1)) then
      bif (Go.Proofs.Ytkeolcgggondnaa.VX.sub3 (0 : Int) x.2.2.2.1 (List.length x.1)) then
        ((F_trace_judge_may ((Go.Proofs.Ytkeolcgggondnaa.VX.cut x.1 (Go.Proofs.Ytkeolcgggondnaa.VX.toN (0 : Int)) ((Go.Proofs.Ytkeolcgggondnaa.VX.toN x.2.2.2.1) - (Go.Proofs.Ytkeolcgggondnaa.VX.toN (0 : Int)))), ((Go.Proofs.Ytkeolcgggondnaa.VX.getAt ((0 : Int), ((0 : Int), ((0 : Int), ((0 : Int), (0 : Int))))) x.2.1 (Go.Proofs.Ytkeolcgggondnaa.VX.toN x.2.2.2.1)), (x.2.2.2.2.1, (x.2.2.2.2.2.1, (x.2.2.2.2.2.2.1, (x.2.2.2.2.2.2.2.1, (x.2.2.2.2.2.2.2.2.1, x.2.2.2.2.2.2.2.2.2))))))))).bind fun r7 =>
        bif (Bool.not r7.1) then
          some (.inr (.inl (x.2.2.2.1, (0 : Int))))
        else
          some (.inl (x.1, (x.2.1, (x.2.2.1, ((Go.IntKind.wrap Go.IntKind.i64 (x.2.2.2.1 + (1 : Int))), (r7.2.1, (r7.2.2.1, (r7.2.2.2.1, (r7.2.2.2.2.1, (r7.2.2.2.2.2.1, r7.2.2.2.2.2.2))))))))))
      else
        none
    else
      none
  else
    some (.inr (.inr ()))
noncomputable def cx_trace_Wrong_7 : Ctx := { tb := mkTb T2.tbl, fx := [(30, [31], Spec.shp si_slices_ContainsFunc_int__trace_Wrong_1 so_slices_ContainsFunc_int__trace_Wrong_1 F_slices_ContainsFunc_int__trace_Wrong_1), (33, [], Spec.shp si_trace_origins so_trace_origins F_trace_origins), (34, [], Spec.shp si_trace_judge_rules so_trace_judge_rules F_trace_judge_rules), (35, [], Spec.thin (Spec.shp si_trace_judge_may so_trace_judge_may F_trace_judge_may))], sum := [], nt := 43, pin := 0, nr := true, ys := [] }
theorem L_trace_Wrong_7_ok : CSound Try.prog ⟨43, 0, true⟩ (.loop (loopOf 7 Try.f8)) (pieceSpec sh_trace_Wrong_7 es_trace_Wrong_7 (loop L_trace_Wrong_7)) :=
  loop_sound (C := cx_trace_Wrong_7) (ctxOK mixed tbl_ok rfl ⟨F_slices_ContainsFunc_int__trace_Wrong_1_ok, F_trace_origins_ok, F_trace_judge_rules_ok, F_trace_judge_may_ok.thin, trivial⟩ trivial) (SumOK.of trivial) sh_trace_Wrong_7 es_trace_Wrong_7 rfl rfl L_trace_Wrong_7 (fun x => by kernel_rfl)
abbrev si_trace_Wrong : Shape := { sl := [(0, (.hole (.slice (.int .i64)))), (1, (.hole (.slice (.pair (.int .i64) (.pair (.int .i64) (.pair (.int .i64) (.pair (.int .i64) (.int .i64))))))))], bl := [], ts := [(.slice (.int .i64)), (.slice (.pair (.int .i64) (.pair (.int .i64) (.pair (.int .i64) (.pair (.int .i64) (.int .i64))))))], pin := 0 }
abbrev so_trace_Wrong : Shape := { sl := [(0, (.hole (.int .i64))), (1, (.hole (.int .i64)))], bl := [], ts := [(.int .i64), (.int .i64)], pin := 0 }
noncomputable def F_trace_Wrong (x : (List (Int) × List ((Int × (Int × (Int × (Int × Int))))))) : Option (Int × Int) :=
  bif (decide ((((List.length x.1) : Nat) : Int) > (4 : Int))) then
    some ((0 : Int), (1 : Int))
  else
    ((F_slices_ContainsFunc_int__trace_Wrong_1 x.1)).bind fun r3 =>
    bif r3 then
      some ((0 : Int), (1 : Int))
    else
      ((F_trace_origins ())).bind fun r4 =>
      ((F_trace_judge_rules (x.1, (((0 : Int) :: ((0 : Int) :: ((0 : Int) :: ((0 : Int) :: ((0 : Int) :: ((0 : Int) :: ((0 : Int) :: ((0 : Int) :: ([] : List Int))))))))), ((0 : Int), (([] : List ((Int × Int) × Int)), (([] : List (Int × Int)), r4))))))).bind fun r5 =>
      ((loop L_trace_Wrong_7 (x.2, (x.2, ((((List.length x.2) : Nat) : Int), ((0 : Int), (r5.1, (r5.2.1, (r5.2.2.1, (r5.2.2.2.1, (r5.2.2.2.2.1, r5.2.2.2.2.2))))))))))).bind fun r6 =>
      match r6 with
      | .inl y7 =>
        some (y7.1, y7.2)
      | .inr y7 =>
        some ((Int.negSucc 0), (0 : Int))
noncomputable def cx_trace_Wrong : Ctx := { tb := mkTb T2.tbl, fx := [(30, [31], Spec.shp si_slices_ContainsFunc_int__trace_Wrong_1 so_slices_ContainsFunc_int__trace_Wrong_1 F_slices_ContainsFunc_int__trace_Wrong_1), (33, [], Spec.shp si_trace_origins so_trace_origins F_trace_origins), (34, [], Spec.shp si_trace_judge_rules so_trace_judge_rules F_trace_judge_rules), (35, [], Spec.thin (Spec.shp si_trace_judge_may so_trace_judge_may F_trace_judge_may))], sum := [(0, 7, pieceSpec sh_trace_Wrong_7 es_trace_Wrong_7 (loop L_trace_Wrong_7))], nt := 43, pin := 0, nr := true, ys := [] }
theorem F_trace_Wrong_ok : Sound Try.prog 8 (Spec.shp si_trace_Wrong so_trace_Wrong F_trace_Wrong) :=
  Sound.shp (C := cx_trace_Wrong) (fn := Try.f8) (by kernel_rfl) (c := bodyOf Try.f8) (by kernel_rfl) (by decide) (ctxOK mixed tbl_ok rfl ⟨F_slices_ContainsFunc_int__trace_Wrong_1_ok, F_trace_origins_ok, F_trace_judge_rules_ok, F_trace_judge_may_ok.thin, trivial⟩ trivial) (SumOK.of ⟨(pieces_one (d := .loop (loopOf 7 Try.f8)) (by kernel_rfl) L_trace_Wrong_7_ok), trivial⟩) (by kernel_rfl) si_trace_Wrong so_trace_Wrong rfl (by decide) (by decide) rfl (by decide) rfl F_trace_Wrong (fun x => by kernel_rfl)
abbrev si_plaitlaw14_alive : Shape := { sl := [], bl := [], ts := [], pin := 0 }
abbrev so_plaitlaw14_alive : Shape := { sl := [(0, (.hole .bool))], bl := [], ts := [.bool], pin := 0 }
noncomputable def F_plaitlaw14_alive (x : Unit) : Option (Bool) :=
  ((F_trace_Wrong (([] : List Int), (((0 : Int), ((0 : Int), ((0 : Int), ((0 : Int), (Int.negSucc 0))))) :: (((1 : Int), ((16 : Int), ((0 : Int), ((0 : Int), (Int.negSucc 0))))) :: ([] : List (Int × (Int × (Int × (Int × Int)))))))))).bind fun r4 =>
  bif (r4.2 == (0 : Int)) then
    some (r4.1 == (1 : Int))
  else
    some false
noncomputable def cx_plaitlaw14_alive : Ctx := { tb := mkTb T2.tbl, fx := [(8, [2000000], Spec.shp si_trace_Wrong so_trace_Wrong F_trace_Wrong)], sum := [], nt := 16, pin := 0, nr := true, ys := [] }
theorem F_plaitlaw14_alive_ok : Sound Try.prog 9 (Spec.shp si_plaitlaw14_alive so_plaitlaw14_alive F_plaitlaw14_alive) :=
  Sound.shp (C := cx_plaitlaw14_alive) (fn := Try.f9) (by kernel_rfl) (c := bodyOf Try.f9) (by kernel_rfl) (by decide) (ctxOK mixed tbl_ok rfl ⟨F_trace_Wrong_ok, trivial⟩ trivial) (SumOK.of trivial) (by kernel_rfl) si_plaitlaw14_alive so_plaitlaw14_alive rfl (by decide) (by decide) rfl (by decide) rfl F_plaitlaw14_alive (fun x => by kernel_rfl)
noncomputable def F_plaitlaw14_TraceParts (x : (List (Int) × List ((Int × (Int × (Int × (Int × Int))))) × Int)) : Option (Bool) :=
  bif (Go.Proofs.Ytkeolcgggondnaa.VX.sub3 (0 : Int) (Min.min (((List.length x.1) : Nat) : Int) (6 : Int)) (List.length x.1)) then
    ((F_plaitlaw14_few x.2.1)).bind fun r1 =>
    ((F_trace_Wrong ((Go.Proofs.Ytkeolcgggondnaa.VX.cut x.1 (Go.Proofs.Ytkeolcgggondnaa.VX.toN (0 : Int)) ((Go.Proofs.Ytkeolcgggondnaa.VX.toN (Min.min (((List.length x.1) : Nat) : Int) (6 : Int))) - (Go.Proofs.Ytkeolcgggondnaa.VX.toN (0 : Int)))), r1))).bind fun r2 =>
    bif (r2.2 != (0 : Int)) then
      ((F_plaitlaw14_alive ())).bind fun r3 =>
      bif r3 then
        some (r2.2 == (1 : Int))
      else
        some false
    else
      bif ((Go.IntKind.wrap Go.IntKind.i64 ((((List.length r1) : Nat) : Int) + (1 : Int))) != (0 : Int)) then
        bif ((Go.IntKind.wrap Go.IntKind.i64 ((((List.length r1) : Nat) : Int) + (1 : Int))) != (0 : Int)) then
          bif (Go.Proofs.Ytkeolcgggondnaa.VX.sub3 (0 : Int) (Int.tmod (Go.IntKind.wrap Go.IntKind.i64 ((Go.IntKind.wrap Go.IntKind.i64 ((Int.tmod x.2.2 (Go.IntKind.wrap Go.IntKind.i64 ((((List.length r1) : Nat) : Int) + (1 : Int)))) + (((List.length r1) : Nat) : Int))) + (1 : Int))) (Go.IntKind.wrap Go.IntKind.i64 ((((List.length r1) : Nat) : Int) + (1 : Int)))) (List.length r1)) then
            ((F_trace_Wrong ((Go.Proofs.Ytkeolcgggondnaa.VX.cut x.1 (Go.Proofs.Ytkeolcgggondnaa.VX.toN (0 : Int)) ((Go.Proofs.Ytkeolcgggondnaa.VX.toN (Min.min (((List.length x.1) : Nat) : Int) (6 : Int))) - (Go.Proofs.Ytkeolcgggondnaa.VX.toN (0 : Int)))), (Go.Proofs.Ytkeolcgggondnaa.VX.cut r1 (Go.Proofs.Ytkeolcgggondnaa.VX.toN (0 : Int)) ((Go.Proofs.Ytkeolcgggondnaa.VX.toN (Int.tmod (Go.IntKind.wrap Go.IntKind.i64 ((Go.IntKind.wrap Go.IntKind.i64 ((Int.tmod x.2.2 (Go.IntKind.wrap Go.IntKind.i64 ((((List.length r1) : Nat) : Int) + (1 : Int)))) + (((List.length r1) : Nat) : Int))) + (1 : Int))) (Go.IntKind.wrap Go.IntKind.i64 ((((List.length r1) : Nat) : Int) + (1 : Int))))) - (Go.Proofs.Ytkeolcgggondnaa.VX.toN (0 : Int))))))).bind fun r3 =>
            bif (decide (r2.1 ≥ (0 : Int))) then
              bif (decide ((Int.tmod (Go.IntKind.wrap Go.IntKind.i64 ((Go.IntKind.wrap Go.IntKind.i64 ((Int.tmod x.2.2 (Go.IntKind.wrap Go.IntKind.i64 ((((List.length r1) : Nat) : Int) + (1 : Int)))) + (((List.length r1) : Nat) : Int))) + (1 : Int))) (Go.IntKind.wrap Go.IntKind.i64 ((((List.length r1) : Nat) : Int) + (1 : Int)))) > r2.1)) then
                ((F_plaitlaw14_alive ())).bind fun r4 =>
                bif r4 then
                  bif (r3.2 == (0 : Int)) then
                    bif (decide (r2.1 ≥ (Int.negSucc 0))) then
                      bif (decide (r2.1 < (((List.length r1) : Nat) : Int))) then
                        some (r3.1 == r2.1)
                      else
                        some false
                    else
                      some false
                  else
                    some false
                else
                  some false
              else
                ((F_plaitlaw14_alive ())).bind fun r4 =>
                bif r4 then
                  bif (r3.2 == (0 : Int)) then
                    bif (decide (r2.1 ≥ (Int.negSucc 0))) then
                      bif (decide (r2.1 < (((List.length r1) : Nat) : Int))) then
                        some (r3.1 == (Int.negSucc 0))
                      else
                        some false
                    else
                      some false
                  else
                    some false
                else
                  some false
            else
              ((F_plaitlaw14_alive ())).bind fun r4 =>
              bif r4 then
                bif (r3.2 == (0 : Int)) then
                  bif (decide (r2.1 ≥ (Int.negSucc 0))) then
                    bif (decide (r2.1 < (((List.length r1) : Nat) : Int))) then
                      some (r3.1 == (Int.negSucc 0))
                    else
                      some false
                  else
                    some false
                else
                  some false
              else
                some false
          else
            none
        else
          none
      else
        none
  else
    none
noncomputable def cx_plaitlaw14_TraceParts : Ctx := { tb := mkTb T2.tbl, fx := [(7, [], Spec.shp si_plaitlaw14_few so_plaitlaw14_few F_plaitlaw14_few), (8, [], Spec.shp si_trace_Wrong so_trace_Wrong F_trace_Wrong), (9, [], Spec.shp si_plaitlaw14_alive so_plaitlaw14_alive F_plaitlaw14_alive)], sum := [], nt := 81, pin := 0, nr := true, ys := [], rw := [(1, [0])] }
theorem F_plaitlaw14_TraceParts_ok : Sound Try.prog 3 (Spec.pure [(.slice (.int .i64)), (.slice (.pair (.int .i64) (.pair (.int .i64) (.pair (.int .i64) (.pair (.int .i64) (.int .i64)))))), (.int .i64)] [.bool] F_plaitlaw14_TraceParts) :=
  Sound.pure (C := cx_plaitlaw14_TraceParts) (fn := Try.f3) (by kernel_rfl) (c := bodyOf Try.f3) (by kernel_rfl) (by decide) (ctxOK mixed tbl_ok rfl ⟨F_plaitlaw14_few_ok, F_trace_Wrong_ok, F_plaitlaw14_alive_ok, trivial⟩) (SumOK.of trivial) (by kernel_rfl) rfl _ _ (by decide) _ (fun x => by kernel_rfl)
abbrev sh_trace_Last_5 : Shape := { sl := [(0, (.hole (.slice (.pair (.int .i64) (.pair (.int .i64) (.pair (.int .i64) (.pair (.int .i64) (.int .i64)))))))), (1, (.hole (.int .i64))), (6, (.hole (.int .i64)))], bl := [], ts := [(.slice (.pair (.int .i64) (.pair (.int .i64) (.pair (.int .i64) (.pair (.int .i64) (.int .i64)))))), (.int .i64), (.int .i64)], pin := 0 }
abbrev es_trace_Last_5 : List (ETag × Shape) := [(.ret, { sl := [(4, (.hole (.int .i64))), (5, (.hole (.int .i64)))], bl := [], ts := [(.int .i64), (.int .i64)], pin := 0 }), (.exit 0, { sl := [], bl := [], ts := [], pin := 0 })]
noncomputable def L_trace_Last_5 (x : (List ((Int × (Int × (Int × (Int × Int))))) × Int × Int)) : Option ((List ((Int × (Int × (Int × (Int × Int))))) × Int × Int) ⊕ ((Int × Int) ⊕ Unit)) :=
  bif (decide (x.2.2 ≥ (0 : Int))) then
    bif (Go.Proofs.Ytkeolcgggondnaa.VX.inb x.2.2 (List.length x.1)) then
      bif (Go.Proofs.Ytkeolcgggondnaa.VX.inb x.2.1 (List.length x.1)) then
        bif ((Go.Proofs.Ytkeolcgggondnaa.VX.getAt ((0 : Int), ((0 : Int), ((0 : Int), ((0 : Int), (0 : Int))))) x.1 (Go.Proofs.Ytkeolcgggondnaa.VX.toN x.2.2)).1 == (Go.Proofs.Ytkeolcgggondnaa.VX.getAt ((0 : Int), ((0 : Int), ((0 : Int), ((0 : Int), (0 : Int))))) x.1 (Go.Proofs.Ytkeolcgggondnaa.VX.toN x.2.1)).1) then
          some (.inr (.inl (x.2.2, (0 : Int))))
        else
          some (.inl (x.1, (x.2.1, (Go.IntKind.wrap Go.IntKind.i64 (x.2.2 - (1 : Int))))))
      else
        none
    else
      none
  else
    some (.inr (.inr ()))
noncomputable def cx_trace_Last_5 : Ctx := { tb := mkTb T2.tbl, fx := [], sum := [], nt := 33, pin := 0, nr := true, ys := [] }
theorem L_trace_Last_5_ok : CSound Try.prog ⟨33, 0, true⟩ (.loop (loopOf 5 Try.f10)) (pieceSpec sh_trace_Last_5 es_trace_Last_5 (loop L_trace_Last_5)) :=
  loop_sound (C := cx_trace_Last_5) (ctxOK mixed tbl_ok rfl trivial trivial) (SumOK.of trivial) sh_trace_Last_5 es_trace_Last_5 rfl rfl L_trace_Last_5 (fun x => by kernel_rfl)
abbrev si_trace_Last : Shape := { sl := [(0, (.hole (.slice (.pair (.int .i64) (.pair (.int .i64) (.pair (.int .i64) (.pair (.int .i64) (.int .i64)))))))), (1, (.hole (.int .i64)))], bl := [], ts := [(.slice (.pair (.int .i64) (.pair (.int .i64) (.pair (.int .i64) (.pair (.int .i64) (.int .i64)))))), (.int .i64)], pin := 0 }
abbrev so_trace_Last : Shape := { sl := [(0, (.hole (.int .i64))), (1, (.hole (.int .i64)))], bl := [], ts := [(.int .i64), (.int .i64)], pin := 0 }
noncomputable def F_trace_Last (x : (List ((Int × (Int × (Int × (Int × Int))))) × Int)) : Option (Int × Int) :=
  bif (decide (x.2 < (0 : Int))) then
    some ((0 : Int), (3 : Int))
  else
    bif (decide (x.2 ≥ (((List.length x.1) : Nat) : Int))) then
      some ((0 : Int), (3 : Int))
    else
      ((loop L_trace_Last_5 (x.1, (x.2, (Go.IntKind.wrap Go.IntKind.i64 (x.2 - (1 : Int))))))).bind fun r4 =>
      match r4 with
      | .inl y5 =>
        some (y5.1, y5.2)
      | .inr y5 =>
        some ((Int.negSucc 0), (0 : Int))
noncomputable def cx_trace_Last : Ctx := { tb := mkTb T2.tbl, fx := [], sum := [(0, 5, pieceSpec sh_trace_Last_5 es_trace_Last_5 (loop L_trace_Last_5))], nt := 33, pin := 0, nr := true, ys := [] }
theorem F_trace_Last_ok : Sound Try.prog 10 (Spec.shp si_trace_Last so_trace_Last F_trace_Last) :=
  Sound.shp (C := cx_trace_Last) (fn := Try.f10) (by kernel_rfl) (c := bodyOf Try.f10) (by kernel_rfl) (by decide) (ctxOK mixed tbl_ok rfl trivial trivial) (SumOK.of ⟨(pieces_one (d := .loop (loopOf 5 Try.f10)) (by kernel_rfl) L_trace_Last_5_ok), trivial⟩) (by kernel_rfl) si_trace_Last so_trace_Last rfl (by decide) (by decide) rfl (by decide) rfl F_trace_Last (fun x => by kernel_rfl)
abbrev sh_trace_Count_6 : Shape := { sl := [(2, (.hole (.int .i64))), (3, (.hole (.int .i64))), (10, (.hole (.int .i64))), (23, (.hole (.slice (.pair (.int .i64) (.pair (.int .i64) (.pair (.int .i64) (.pair (.int .i64) (.int .i64)))))))), (24, (.hole (.int .i64))), (25, (.hole (.int .i64)))], bl := [], ts := [(.int .i64), (.int .i64), (.int .i64), (.slice (.pair (.int .i64) (.pair (.int .i64) (.pair (.int .i64) (.pair (.int .i64) (.int .i64)))))), (.int .i64), (.int .i64)], pin := 0 }
abbrev es_trace_Count_6 : List (ETag × Shape) := [(.exit 0, { sl := [(10, (.hole (.int .i64)))], bl := [], ts := [(.int .i64)], pin := 0 })]
noncomputable def L_trace_Count_6 (x : (Int × Int × Int × List ((Int × (Int × (Int × (Int × Int))))) × Int × Int)) : Option ((Int × Int × Int × List ((Int × (Int × (Int × (Int × Int))))) × Int × Int) ⊕ ((Int))) :=
  bif (decide (x.2.2.2.2.2 < x.2.2.2.2.1)) then
    bif (Go.Proofs.Ytkeolcgggondnaa.VX.inb x.2.2.2.2.2 (List.length x.2.2.2.1)) then
      bif ((Go.Proofs.Ytkeolcgggondnaa.VX.getAt ((0 : Int), ((0 : Int), ((0 : Int), ((0 : Int), (0 : Int))))) x.2.2.2.1 (Go.Proofs.Ytkeolcgggondnaa.VX.toN x.2.2.2.2.2)).2.1 == x.1) then
        bif ((Go.Proofs.Ytkeolcgggondnaa.VX.getAt ((0 : Int), ((0 : Int), ((0 : Int), ((0 : Int), (0 : Int))))) x.2.2.2.1 (Go.Proofs.Ytkeolcgggondnaa.VX.toN x.2.2.2.2.2)).2.2.1 == x.2.1) then
          some (.inl (x.1, (x.2.1, ((Go.IntKind.wrap Go.IntKind.i64 (x.2.2.1 + (1 : Int))), (x.2.2.2.1, (x.2.2.2.2.1, (Go.IntKind.wrap Go.IntKind.i64 (x.2.2.2.2.2 + (1 : Int)))))))))
        else
          some (.inl (x.1, (x.2.1, (x.2.2.1, (x.2.2.2.1, (x.2.2.2.2.1, (Go.IntKind.wrap Go.IntKind.i64 (x.2.2.2.2.2 + (1 : Int)))))))))
      else
        some (.inl (x.1, (x.2.1, (x.2.2.1, (x.2.2.2.1, (x.2.2.2.2.1, (Go.IntKind.wrap Go.IntKind.i64 (x.2.2.2.2.2 + (1 : Int)))))))))
    else
      none
  else
    some (.inr x.2.2.1)
noncomputable def cx_trace_Count_6 : Ctx := { tb := mkTb T2.tbl, fx := [], sum := [], nt := 43, pin := 0, nr := true, ys := [] }
theorem L_trace_Count_6_ok : CSound Try.prog ⟨43, 0, true⟩ (.loop (loopOf 6 Try.f11)) (pieceSpec sh_trace_Count_6 es_trace_Count_6 (loop L_trace_Count_6)) :=
  loop_sound (C := cx_trace_Count_6) (ctxOK mixed tbl_ok rfl trivial trivial) (SumOK.of trivial) sh_trace_Count_6 es_trace_Count_6 rfl rfl L_trace_Count_6 (fun x => by kernel_rfl)
abbrev si_trace_Count : Shape := { sl := [(0, (.hole (.slice (.pair (.int .i64) (.pair (.int .i64) (.pair (.int .i64) (.pair (.int .i64) (.int .i64)))))))), (1, (.hole (.int .i64))), (2, (.hole (.int .i64))), (3, (.hole (.int .i64)))], bl := [], ts := [(.slice (.pair (.int .i64) (.pair (.int .i64) (.pair (.int .i64) (.pair (.int .i64) (.int .i64)))))), (.int .i64), (.int .i64), (.int .i64)], pin := 0 }
abbrev so_trace_Count : Shape := { sl := [(0, (.hole (.int .i64))), (1, (.hole (.int .i64)))], bl := [], ts := [(.int .i64), (.int .i64)], pin := 0 }
noncomputable def F_trace_Count (x : (List ((Int × (Int × (Int × (Int × Int))))) × Int × Int × Int)) : Option (Int × Int) :=
  bif (decide (x.2.1 < (0 : Int))) then
    some ((0 : Int), (3 : Int))
  else
    bif (decide (x.2.1 ≥ (((List.length x.1) : Nat) : Int))) then
      some ((0 : Int), (3 : Int))
    else
      bif (Go.Proofs.Ytkeolcgggondnaa.VX.sub3 (0 : Int) x.2.1 (List.length x.1)) then
        ((loop L_trace_Count_6 (x.2.2.1, (x.2.2.2, ((0 : Int), ((Go.Proofs.Ytkeolcgggondnaa.VX.cut x.1 (Go.Proofs.Ytkeolcgggondnaa.VX.toN (0 : Int)) ((Go.Proofs.Ytkeolcgggondnaa.VX.toN x.2.1) - (Go.Proofs.Ytkeolcgggondnaa.VX.toN (0 : Int)))), ((((List.length (Go.Proofs.Ytkeolcgggondnaa.VX.cut x.1 (Go.Proofs.Ytkeolcgggondnaa.VX.toN (0 : Int)) ((Go.Proofs.Ytkeolcgggondnaa.VX.toN x.2.1) - (Go.Proofs.Ytkeolcgggondnaa.VX.toN (0 : Int))))) : Nat) : Int), (0 : Int)))))))).bind fun r5 =>
        some (r5, (0 : Int))
      else
        none
noncomputable def cx_trace_Count : Ctx := { tb := mkTb T2.tbl, fx := [], sum := [(0, 6, pieceSpec sh_trace_Count_6 es_trace_Count_6 (loop L_trace_Count_6))], nt := 43, pin := 0, nr := true, ys := [] }
theorem F_trace_Count_ok : Sound Try.prog 11 (Spec.shp si_trace_Count so_trace_Count F_trace_Count) :=
  Sound.shp (C := cx_trace_Count) (fn := Try.f11) (by kernel_rfl) (c := bodyOf Try.f11) (by kernel_rfl) (by decide) (ctxOK mixed tbl_ok rfl trivial trivial) (SumOK.of ⟨(pieces_one (d := .loop (loopOf 6 Try.f11)) (by kernel_rfl) L_trace_Count_6_ok), trivial⟩) (by kernel_rfl) si_trace_Count so_trace_Count rfl (by decide) (by decide) rfl (by decide) rfl F_trace_Count (fun x => by kernel_rfl)
abbrev sh_plaitref14_Caps_3 : Shape := { sl := [(0, (.hole (.slice (.int .i64)))), (5, (.hole (.slice (.int .i64)))), (6, (.hole (.int .i64))), (7, (.hole (.int .i64)))], bl := [], ts := [(.slice (.int .i64)), (.slice (.int .i64)), (.int .i64), (.int .i64)], pin := 0 }
abbrev es_plaitref14_Caps_3 : List (ETag × Shape) := [(.ret, { sl := [(2, (.hole .bool))], bl := [], ts := [.bool], pin := 0 }), (.exit 0, { sl := [(0, (.hole (.slice (.int .i64))))], bl := [], ts := [(.slice (.int .i64))], pin := 0 })]
noncomputable def L_plaitref14_Caps_3 (x : (List (Int) × List (Int) × Int × Int)) : Option ((List (Int) × List (Int) × Int × Int) ⊕ ((Bool) ⊕ (List (Int)))) :=
  bif (decide (x.2.2.2 < x.2.2.1)) then
    bif (Go.Proofs.Ytkeolcgggondnaa.VX.inb x.2.2.2 (List.length x.2.1)) then
      bif (decide ((Go.Proofs.Ytkeolcgggondnaa.VX.getAt (0 : Int) x.2.1 (Go.Proofs.Ytkeolcgggondnaa.VX.toN x.2.2.2)) < (Int.negSucc 0))) then
        some (.inr (.inl false))
      else
        bif (decide ((Go.Proofs.Ytkeolcgggondnaa.VX.getAt (0 : Int) x.2.1 (Go.Proofs.Ytkeolcgggondnaa.VX.toN x.2.2.2)) > (3 : Int))) then
          some (.inr (.inl false))
        else
          some (.inl (x.1, (x.2.1, (x.2.2.1, (Go.IntKind.wrap Go.IntKind.i64 (x.2.2.2 + (1 : Int)))))))
    else
      none
  else
    some (.inr (.inr x.1))
noncomputable def cx_plaitref14_Caps_3 : Ctx := { tb := mkTb T2.tbl, fx := [], sum := [], nt := 21, pin := 0, nr := true, ys := [] }
theorem L_plaitref14_Caps_3_ok : CSound Try.prog ⟨21, 0, true⟩ (.loop (loopOf 3 Try.f12)) (pieceSpec sh_plaitref14_Caps_3 es_plaitref14_Caps_3 (loop L_plaitref14_Caps_3)) :=
  loop_sound (C := cx_plaitref14_Caps_3) (ctxOK mixed tbl_ok rfl trivial trivial) (SumOK.of trivial) sh_plaitref14_Caps_3 es_plaitref14_Caps_3 rfl rfl L_plaitref14_Caps_3 (fun x => by kernel_rfl)
abbrev si_plaitref14_Caps : Shape := { sl := [(0, (.hole (.slice (.int .i64))))], bl := [], ts := [(.slice (.int .i64))], pin := 0 }
abbrev so_plaitref14_Caps : Shape := { sl := [(0, (.hole .bool))], bl := [], ts := [.bool], pin := 0 }
noncomputable def F_plaitref14_Caps (x : (List (Int))) : Option (Bool) :=
  ((loop L_plaitref14_Caps_3 (x, (x, ((((List.length x) : Nat) : Int), (0 : Int)))))).bind fun r6 =>
  match r6 with
  | .inl y7 =>
    some y7
  | .inr y7 =>
    some (decide ((((List.length y7) : Nat) : Int) ≤ (4 : Int)))
noncomputable def cx_plaitref14_Caps : Ctx := { tb := mkTb T2.tbl, fx := [], sum := [(0, 3, pieceSpec sh_plaitref14_Caps_3 es_plaitref14_Caps_3 (loop L_plaitref14_Caps_3))], nt := 21, pin := 0, nr := true, ys := [] }
theorem F_plaitref14_Caps_ok : Sound Try.prog 12 (Spec.shp si_plaitref14_Caps so_plaitref14_Caps F_plaitref14_Caps) :=
  Sound.shp (C := cx_plaitref14_Caps) (fn := Try.f12) (by kernel_rfl) (c := bodyOf Try.f12) (by kernel_rfl) (by decide) (ctxOK mixed tbl_ok rfl trivial trivial) (SumOK.of ⟨(pieces_one (d := .loop (loopOf 3 Try.f12)) (by kernel_rfl) L_plaitref14_Caps_3_ok), trivial⟩) (by kernel_rfl) si_plaitref14_Caps so_plaitref14_Caps rfl (by decide) (by decide) rfl (by decide) rfl F_plaitref14_Caps (fun x => by kernel_rfl)
abbrev sh_plaitref14_Last_4 : Shape := { sl := [(0, (.hole (.slice (.pair (.int .i64) (.pair (.int .i64) (.pair (.int .i64) (.pair (.int .i64) (.int .i64)))))))), (1, (.hole (.int .i64))), (5, (.hole (.int .i64))), (10, (.hole (.int .i64))), (11, (.hole (.int .i64)))], bl := [], ts := [(.slice (.pair (.int .i64) (.pair (.int .i64) (.pair (.int .i64) (.pair (.int .i64) (.int .i64)))))), (.int .i64), (.int .i64), (.int .i64), (.int .i64)], pin := 0 }
abbrev es_plaitref14_Last_4 : List (ETag × Shape) := [(.exit 0, { sl := [(5, (.hole (.int .i64)))], bl := [], ts := [(.int .i64)], pin := 0 })]
noncomputable def L_plaitref14_Last_4 (x : (List ((Int × (Int × (Int × (Int × Int))))) × Int × Int × Int × Int)) : Option ((List ((Int × (Int × (Int × (Int × Int))))) × Int × Int × Int × Int) ⊕ ((Int))) :=
  bif (decide (x.2.2.2.2 < x.2.2.2.1)) then
    bif (Go.Proofs.Ytkeolcgggondnaa.VX.inb x.2.2.2.2 (List.length x.1)) then
      bif (Go.Proofs.Ytkeolcgggondnaa.VX.inb x.2.1 (List.length x.1)) then
        bif ((Go.Proofs.Ytkeolcgggondnaa.VX.getAt ((0 : Int), ((0 : Int), ((0 : Int), ((0 : Int), (0 : Int))))) x.1 (Go.Proofs.Ytkeolcgggondnaa.VX.toN x.2.2.2.2)).1 == (Go.Proofs.Ytkeolcgggondnaa.VX.getAt ((0 : Int), ((0 : Int), ((0 : Int), ((0 : Int), (0 : Int))))) x.1 (Go.Proofs.Ytkeolcgggondnaa.VX.toN x.2.1)).1) then
          some (.inl (x.1, (x.2.1, (x.2.2.2.2, (x.2.2.2.1, (Go.IntKind.wrap Go.IntKind.i64 (x.2.2.2.2 + (1 : Int))))))))
        else
          some (.inl (x.1, (x.2.1, (x.2.2.1, (x.2.2.2.1, (Go.IntKind.wrap Go.IntKind.i64 (x.2.2.2.2 + (1 : Int))))))))
      else
        none
    else
      none
  else
    some (.inr x.2.2.1)
noncomputable def cx_plaitref14_Last_4 : Ctx := { tb := mkTb T2.tbl, fx := [], sum := [], nt := 28, pin := 0, nr := true, ys := [] }
theorem L_plaitref14_Last_4_ok : CSound Try.prog ⟨28, 0, true⟩ (.loop (loopOf 4 Try.f14)) (pieceSpec sh_plaitref14_Last_4 es_plaitref14_Last_4 (loop L_plaitref14_Last_4)) :=
  loop_sound (C := cx_plaitref14_Last_4) (ctxOK mixed tbl_ok rfl trivial trivial) (SumOK.of trivial) sh_plaitref14_Last_4 es_plaitref14_Last_4 rfl rfl L_plaitref14_Last_4 (fun x => by kernel_rfl)
abbrev si_plaitref14_Last : Shape := { sl := [(0, (.hole (.slice (.pair (.int .i64) (.pair (.int .i64) (.pair (.int .i64) (.pair (.int .i64) (.int .i64)))))))), (1, (.hole (.int .i64)))], bl := [], ts := [(.slice (.pair (.int .i64) (.pair (.int .i64) (.pair (.int .i64) (.pair (.int .i64) (.int .i64)))))), (.int .i64)], pin := 0 }
abbrev so_plaitref14_Last : Shape := { sl := [(0, (.hole (.int .i64)))], bl := [], ts := [(.int .i64)], pin := 0 }
noncomputable def F_plaitref14_Last (x : (List ((Int × (Int × (Int × (Int × Int))))) × Int)) : Option (Int) :=
  bif (Go.Proofs.Ytkeolcgggondnaa.VX.sub3 (0 : Int) x.2 (List.length x.1)) then
    ((loop L_plaitref14_Last_4 (x.1, (x.2, ((Int.negSucc 0), ((((List.length (Go.Proofs.Ytkeolcgggondnaa.VX.cut x.1 (Go.Proofs.Ytkeolcgggondnaa.VX.toN (0 : Int)) ((Go.Proofs.Ytkeolcgggondnaa.VX.toN x.2) - (Go.Proofs.Ytkeolcgggondnaa.VX.toN (0 : Int))))) : Nat) : Int), (0 : Int))))))).bind fun r8 =>
    some r8
  else
    none
noncomputable def cx_plaitref14_Last : Ctx := { tb := mkTb T2.tbl, fx := [], sum := [(0, 4, pieceSpec sh_plaitref14_Last_4 es_plaitref14_Last_4 (loop L_plaitref14_Last_4))], nt := 28, pin := 0, nr := true, ys := [] }
theorem F_plaitref14_Last_ok : Sound Try.prog 14 (Spec.shp si_plaitref14_Last so_plaitref14_Last F_plaitref14_Last) :=
  Sound.shp (C := cx_plaitref14_Last) (fn := Try.f14) (by kernel_rfl) (c := bodyOf Try.f14) (by kernel_rfl) (by decide) (ctxOK mixed tbl_ok rfl trivial trivial) (SumOK.of ⟨(pieces_one (d := .loop (loopOf 4 Try.f14)) (by kernel_rfl) L_plaitref14_Last_4_ok), trivial⟩) (by kernel_rfl) si_plaitref14_Last so_plaitref14_Last rfl (by decide) (by decide) rfl (by decide) rfl F_plaitref14_Last (fun x => by kernel_rfl)
abbrev sh_plaitref14_Count_4 : Shape := { sl := [(2, (.hole (.int .i64))), (3, (.hole (.int .i64))), (9, (.hole (.int .i64))), (14, (.hole (.slice (.pair (.int .i64) (.pair (.int .i64) (.pair (.int .i64) (.pair (.int .i64) (.int .i64)))))))), (15, (.hole (.int .i64))), (16, (.hole (.int .i64)))], bl := [], ts := [(.int .i64), (.int .i64), (.int .i64), (.slice (.pair (.int .i64) (.pair (.int .i64) (.pair (.int .i64) (.pair (.int .i64) (.int .i64)))))), (.int .i64), (.int .i64)], pin := 0 }
abbrev es_plaitref14_Count_4 : List (ETag × Shape) := [(.exit 0, { sl := [(9, (.hole (.int .i64)))], bl := [], ts := [(.int .i64)], pin := 0 })]
noncomputable def L_plaitref14_Count_4 (x : (Int × Int × Int × List ((Int × (Int × (Int × (Int × Int))))) × Int × Int)) : Option ((Int × Int × Int × List ((Int × (Int × (Int × (Int × Int))))) × Int × Int) ⊕ ((Int))) :=
  bif (decide (x.2.2.2.2.2 < x.2.2.2.2.1)) then
    bif (Go.Proofs.Ytkeolcgggondnaa.VX.inb x.2.2.2.2.2 (List.length x.2.2.2.1)) then
      bif ((Go.Proofs.Ytkeolcgggondnaa.VX.getAt ((0 : Int), ((0 : Int), ((0 : Int), ((0 : Int), (0 : Int))))) x.2.2.2.1 (Go.Proofs.Ytkeolcgggondnaa.VX.toN x.2.2.2.2.2)).2.1 == x.1) then
        bif ((Go.Proofs.Ytkeolcgggondnaa.VX.getAt ((0 : Int), ((0 : Int), ((0 : Int), ((0 : Int), (0 : Int))))) x.2.2.2.1 (Go.Proofs.Ytkeolcgggondnaa.VX.toN x.2.2.2.2.2)).2.2.1 == x.2.1) then
          some (.inl (x.1, (x.2.1, ((Go.IntKind.wrap Go.IntKind.i64 (x.2.2.1 + (1 : Int))), (x.2.2.2.1, (x.2.2.2.2.1, (Go.IntKind.wrap Go.IntKind.i64 (x.2.2.2.2.2 + (1 : Int)))))))))
        else
          some (.inl (x.1, (x.2.1, (x.2.2.1, (x.2.2.2.1, (x.2.2.2.2.1, (Go.IntKind.wrap Go.IntKind.i64 (x.2.2.2.2.2 + (1 : Int)))))))))
      else
        some (.inl (x.1, (x.2.1, (x.2.2.1, (x.2.2.2.1, (x.2.2.2.2.1, (Go.IntKind.wrap Go.IntKind.i64 (x.2.2.2.2.2 + (1 : Int)))))))))
    else
      none
  else
    some (.inr x.2.2.1)
noncomputable def cx_plaitref14_Count_4 : Ctx := { tb := mkTb T2.tbl, fx := [], sum := [], nt := 34, pin := 0, nr := true, ys := [] }
theorem L_plaitref14_Count_4_ok : CSound Try.prog ⟨34, 0, true⟩ (.loop (loopOf 4 Try.f15)) (pieceSpec sh_plaitref14_Count_4 es_plaitref14_Count_4 (loop L_plaitref14_Count_4)) :=
  loop_sound (C := cx_plaitref14_Count_4) (ctxOK mixed tbl_ok rfl trivial trivial) (SumOK.of trivial) sh_plaitref14_Count_4 es_plaitref14_Count_4 rfl rfl L_plaitref14_Count_4 (fun x => by kernel_rfl)
abbrev si_plaitref14_Count : Shape := { sl := [(0, (.hole (.slice (.pair (.int .i64) (.pair (.int .i64) (.pair (.int .i64) (.pair (.int .i64) (.int .i64)))))))), (1, (.hole (.int .i64))), (2, (.hole (.int .i64))), (3, (.hole (.int .i64)))], bl := [], ts := [(.slice (.pair (.int .i64) (.pair (.int .i64) (.pair (.int .i64) (.pair (.int .i64) (.int .i64)))))), (.int .i64), (.int .i64), (.int .i64)], pin := 0 }
abbrev so_plaitref14_Count : Shape := { sl := [(0, (.hole (.int .i64)))], bl := [], ts := [(.int .i64)], pin := 0 }
noncomputable def F_plaitref14_Count (x : (List ((Int × (Int × (Int × (Int × Int))))) × Int × Int × Int)) : Option (Int) :=
  bif (Go.Proofs.Ytkeolcgggondnaa.VX.sub3 (0 : Int) x.2.1 (List.length x.1)) then
    ((loop L_plaitref14_Count_4 (x.2.2.1, (x.2.2.2, ((0 : Int), ((Go.Proofs.Ytkeolcgggondnaa.VX.cut x.1 (Go.Proofs.Ytkeolcgggondnaa.VX.toN (0 : Int)) ((Go.Proofs.Ytkeolcgggondnaa.VX.toN x.2.1) - (Go.Proofs.Ytkeolcgggondnaa.VX.toN (0 : Int)))), ((((List.length (Go.Proofs.Ytkeolcgggondnaa.VX.cut x.1 (Go.Proofs.Ytkeolcgggondnaa.VX.toN (0 : Int)) ((Go.Proofs.Ytkeolcgggondnaa.VX.toN x.2.1) - (Go.Proofs.Ytkeolcgggondnaa.VX.toN (0 : Int))))) : Nat) : Int), (0 : Int)))))))).bind fun r9 =>
    some r9
  else
    none
noncomputable def cx_plaitref14_Count : Ctx := { tb := mkTb T2.tbl, fx := [], sum := [(0, 4, pieceSpec sh_plaitref14_Count_4 es_plaitref14_Count_4 (loop L_plaitref14_Count_4))], nt := 34, pin := 0, nr := true, ys := [] }
theorem F_plaitref14_Count_ok : Sound Try.prog 15 (Spec.shp si_plaitref14_Count so_plaitref14_Count F_plaitref14_Count) :=
  Sound.shp (C := cx_plaitref14_Count) (fn := Try.f15) (by kernel_rfl) (c := bodyOf Try.f15) (by kernel_rfl) (by decide) (ctxOK mixed tbl_ok rfl trivial trivial) (SumOK.of ⟨(pieces_one (d := .loop (loopOf 4 Try.f15)) (by kernel_rfl) L_plaitref14_Count_4_ok), trivial⟩) (by kernel_rfl) si_plaitref14_Count so_plaitref14_Count rfl (by decide) (by decide) rfl (by decide) rfl F_plaitref14_Count (fun x => by kernel_rfl)
abbrev si_plaitref14_shape : Shape := { sl := [(0, (.hole (.slice (.pair (.int .i64) (.pair (.int .i64) (.pair (.int .i64) (.pair (.int .i64) (.int .i64)))))))), (1, (.hole (.int .i64)))], bl := [], ts := [(.slice (.pair (.int .i64) (.pair (.int .i64) (.pair (.int .i64) (.pair (.int .i64) (.int .i64)))))), (.int .i64)], pin := 0 }
abbrev so_plaitref14_shape : Shape := { sl := [(0, (.hole .bool))], bl := [], ts := [.bool], pin := 0 }
noncomputable def F_plaitref14_shape (x : (List ((Int × (Int × (Int × (Int × Int))))) × Int)) : Option (Bool) :=
  bif (Go.Proofs.Ytkeolcgggondnaa.VX.inb x.2 (List.length x.1)) then
    bif (decide ((Go.Proofs.Ytkeolcgggondnaa.VX.getAt ((0 : Int), ((0 : Int), ((0 : Int), ((0 : Int), (0 : Int))))) x.1 (Go.Proofs.Ytkeolcgggondnaa.VX.toN x.2)).1 < (0 : Int))) then
      some true
    else
      bif (decide ((Go.Proofs.Ytkeolcgggondnaa.VX.getAt ((0 : Int), ((0 : Int), ((0 : Int), ((0 : Int), (0 : Int))))) x.1 (Go.Proofs.Ytkeolcgggondnaa.VX.toN x.2)).1 > (7 : Int))) then
        some true
      else
        bif (decide ((Go.Proofs.Ytkeolcgggondnaa.VX.getAt ((0 : Int), ((0 : Int), ((0 : Int), ((0 : Int), (0 : Int))))) x.1 (Go.Proofs.Ytkeolcgggondnaa.VX.toN x.2)).2.1 < (0 : Int))) then
          some true
        else
          bif (decide ((Go.Proofs.Ytkeolcgggondnaa.VX.getAt ((0 : Int), ((0 : Int), ((0 : Int), ((0 : Int), (0 : Int))))) x.1 (Go.Proofs.Ytkeolcgggondnaa.VX.toN x.2)).2.1 > (17 : Int))) then
            some true
          else
            bif (decide ((Go.Proofs.Ytkeolcgggondnaa.VX.getAt ((0 : Int), ((0 : Int), ((0 : Int), ((0 : Int), (0 : Int))))) x.1 (Go.Proofs.Ytkeolcgggondnaa.VX.toN x.2)).2.2.2.1 < (0 : Int))) then
              some true
            else
              bif (decide ((Go.Proofs.Ytkeolcgggondnaa.VX.getAt ((0 : Int), ((0 : Int), ((0 : Int), ((0 : Int), (0 : Int))))) x.1 (Go.Proofs.Ytkeolcgggondnaa.VX.toN x.2)).2.2.2.2 < (Int.negSucc 0))) then
                some true
              else
                some (decide ((Go.Proofs.Ytkeolcgggondnaa.VX.getAt ((0 : Int), ((0 : Int), ((0 : Int), ((0 : Int), (0 : Int))))) x.1 (Go.Proofs.Ytkeolcgggondnaa.VX.toN x.2)).2.2.2.2 ≥ x.2))
  else
    none
noncomputable def cx_plaitref14_shape : Ctx := { tb := mkTb T2.tbl, fx := [], sum := [], nt := 44, pin := 0, nr := true, ys := [] }
theorem F_plaitref14_shape_ok : Sound Try.prog 61 (Spec.shp si_plaitref14_shape so_plaitref14_shape F_plaitref14_shape) :=
  Sound.shp (C := cx_plaitref14_shape) (fn := Try.f61) (by kernel_rfl) (c := bodyOf Try.f61) (by kernel_rfl) (by decide) (ctxOK mixed tbl_ok rfl trivial trivial) (SumOK.of trivial) (by kernel_rfl) si_plaitref14_shape so_plaitref14_shape rfl (by decide) (by decide) rfl (by decide) rfl F_plaitref14_shape (fun x => by kernel_rfl)
abbrev si_plaitref14_begun : Shape := { sl := [(0, (.hole (.slice (.pair (.int .i64) (.pair (.int .i64) (.pair (.int .i64) (.pair (.int .i64) (.int .i64)))))))), (1, (.hole (.int .i64)))], bl := [], ts := [(.slice (.pair (.int .i64) (.pair (.int .i64) (.pair (.int .i64) (.pair (.int .i64) (.int .i64)))))), (.int .i64)], pin := 0 }
abbrev so_plaitref14_begun : Shape := { sl := [(0, (.hole .bool))], bl := [], ts := [.bool], pin := 0 }
noncomputable def F_plaitref14_begun (x : (List ((Int × (Int × (Int × (Int × Int))))) × Int)) : Option (Bool) :=
  bif (Go.Proofs.Ytkeolcgggondnaa.VX.inb x.2 (List.length x.1)) then
    bif ((Go.Proofs.Ytkeolcgggondnaa.VX.getAt ((0 : Int), ((0 : Int), ((0 : Int), ((0 : Int), (0 : Int))))) x.1 (Go.Proofs.Ytkeolcgggondnaa.VX.toN x.2)).2.1 != (0 : Int)) then
      ((F_plaitref14_Last (x.1, x.2))).bind fun r11 =>
      some (decide (r11 < (0 : Int)))
    else
      ((F_plaitref14_Last (x.1, x.2))).bind fun r11 =>
      bif (decide (r11 ≥ (0 : Int))) then
        some true
      else
        bif ((Go.Proofs.Ytkeolcgggondnaa.VX.getAt ((0 : Int), ((0 : Int), ((0 : Int), ((0 : Int), (0 : Int))))) x.1 (Go.Proofs.Ytkeolcgggondnaa.VX.toN x.2)).2.2.1 != (0 : Int)) then
          some true
        else
          bif ((Go.Proofs.Ytkeolcgggondnaa.VX.getAt ((0 : Int), ((0 : Int), ((0 : Int), ((0 : Int), (0 : Int))))) x.1 (Go.Proofs.Ytkeolcgggondnaa.VX.toN x.2)).2.2.2.1 != (0 : Int)) then
            some true
          else
            bif ((Go.Proofs.Ytkeolcgggondnaa.VX.getAt ((0 : Int), ((0 : Int), ((0 : Int), ((0 : Int), (0 : Int))))) x.1 (Go.Proofs.Ytkeolcgggondnaa.VX.toN x.2)).1 == (0 : Int)) then
              bif ((Go.Proofs.Ytkeolcgggondnaa.VX.getAt ((0 : Int), ((0 : Int), ((0 : Int), ((0 : Int), (0 : Int))))) x.1 (Go.Proofs.Ytkeolcgggondnaa.VX.toN x.2)).2.2.2.2 != (Int.negSucc 0)) then
                some true
              else
                bif (decide ((Go.Proofs.Ytkeolcgggondnaa.VX.getAt ((0 : Int), ((0 : Int), ((0 : Int), ((0 : Int), (0 : Int))))) x.1 (Go.Proofs.Ytkeolcgggondnaa.VX.toN x.2)).1 > (0 : Int))) then
                  bif (decide ((Go.Proofs.Ytkeolcgggondnaa.VX.getAt ((0 : Int), ((0 : Int), ((0 : Int), ((0 : Int), (0 : Int))))) x.1 (Go.Proofs.Ytkeolcgggondnaa.VX.toN x.2)).2.2.2.2 < (0 : Int))) then
                    some true
                  else
                    bif (Go.Proofs.Ytkeolcgggondnaa.VX.inb (Go.Proofs.Ytkeolcgggondnaa.VX.getAt ((0 : Int), ((0 : Int), ((0 : Int), ((0 : Int), (0 : Int))))) x.1 (Go.Proofs.Ytkeolcgggondnaa.VX.toN x.2)).2.2.2.2 (List.length x.1)) then
                      bif ((Go.Proofs.Ytkeolcgggondnaa.VX.getAt ((0 : Int), ((0 : Int), ((0 : Int), ((0 : Int), (0 : Int))))) x.1 (Go.Proofs.Ytkeolcgggondnaa.VX.toN (Go.Proofs.Ytkeolcgggondnaa.VX.getAt ((0 : Int), ((0 : Int), ((0 : Int), ((0 : Int), (0 : Int))))) x.1 (Go.Proofs.Ytkeolcgggondnaa.VX.toN x.2)).2.2.2.2)).2.1 != (1 : Int)) then
                        some true
                      else
                        bif (Go.Proofs.Ytkeolcgggondnaa.VX.inb (Go.Proofs.Ytkeolcgggondnaa.VX.getAt ((0 : Int), ((0 : Int), ((0 : Int), ((0 : Int), (0 : Int))))) x.1 (Go.Proofs.Ytkeolcgggondnaa.VX.toN x.2)).2.2.2.2 (List.length x.1)) then
                          some ((Go.Proofs.Ytkeolcgggondnaa.VX.getAt ((0 : Int), ((0 : Int), ((0 : Int), ((0 : Int), (0 : Int))))) x.1 (Go.Proofs.Ytkeolcgggondnaa.VX.toN (Go.Proofs.Ytkeolcgggondnaa.VX.getAt ((0 : Int), ((0 : Int), ((0 : Int), ((0 : Int), (0 : Int))))) x.1 (Go.Proofs.Ytkeolcgggondnaa.VX.toN x.2)).2.2.2.2)).2.2.1 != (Go.Proofs.Ytkeolcgggondnaa.VX.getAt ((0 : Int), ((0 : Int), ((0 : Int), ((0 : Int), (0 : Int))))) x.1 (Go.Proofs.Ytkeolcgggondnaa.VX.toN x.2)).1)
                        else
                          none
                    else
                      none
                else
                  some false
            else
              bif (decide ((Go.Proofs.Ytkeolcgggondnaa.VX.getAt ((0 : Int), ((0 : Int), ((0 : Int), ((0 : Int), (0 : Int))))) x.1 (Go.Proofs.Ytkeolcgggondnaa.VX.toN x.2)).1 > (0 : Int))) then
                bif (decide ((Go.Proofs.Ytkeolcgggondnaa.VX.getAt ((0 : Int), ((0 : Int), ((0 : Int), ((0 : Int), (0 : Int))))) x.1 (Go.Proofs.Ytkeolcgggondnaa.VX.toN x.2)).2.2.2.2 < (0 : Int))) then
                  some true
                else
                  bif (Go.Proofs.Ytkeolcgggondnaa.VX.inb (Go.Proofs.Ytkeolcgggondnaa.VX.getAt ((0 : Int), ((0 : Int), ((0 : Int), ((0 : Int), (0 : Int))))) x.1 (Go.Proofs.Ytkeolcgggondnaa.VX.toN x.2)).2.2.2.2 (List.length x.1)) then
                    bif ((Go.Proofs.Ytkeolcgggondnaa.VX.getAt ((0 : Int), ((0 : Int), ((0 : Int), ((0 : Int), (0 : Int))))) x.1 (Go.Proofs.Ytkeolcgggondnaa.VX.toN (Go.Proofs.Ytkeolcgggondnaa.VX.getAt ((0 : Int), ((0 : Int), ((0 : Int), ((0 : Int), (0 : Int))))) x.1 (Go.Proofs.Ytkeolcgggondnaa.VX.toN x.2)).2.2.2.2)).2.1 != (1 : Int)) then
                      some true
                    else
                      bif (Go.Proofs.Ytkeolcgggondnaa.VX.inb (Go.Proofs.Ytkeolcgggondnaa.VX.getAt ((0 : Int), ((0 : Int), ((0 : Int), ((0 : Int), (0 : Int))))) x.1 (Go.Proofs.Ytkeolcgggondnaa.VX.toN x.2)).2.2.2.2 (List.length x.1)) then
                        some ((Go.Proofs.Ytkeolcgggondnaa.VX.getAt ((0 : Int), ((0 : Int), ((0 : Int), ((0 : Int), (0 : Int))))) x.1 (Go.Proofs.Ytkeolcgggondnaa.VX.toN (Go.Proofs.Ytkeolcgggondnaa.VX.getAt ((0 : Int), ((0 : Int), ((0 : Int), ((0 : Int), (0 : Int))))) x.1 (Go.Proofs.Ytkeolcgggondnaa.VX.toN x.2)).2.2.2.2)).2.2.1 != (Go.Proofs.Ytkeolcgggondnaa.VX.getAt ((0 : Int), ((0 : Int), ((0 : Int), ((0 : Int), (0 : Int))))) x.1 (Go.Proofs.Ytkeolcgggondnaa.VX.toN x.2)).1)
                      else
                        none
                  else
                    none
              else
                some false
  else
    none
noncomputable def cx_plaitref14_begun : Ctx := { tb := mkTb T2.tbl, fx := [(14, [], Spec.shp si_plaitref14_Last so_plaitref14_Last F_plaitref14_Last)], sum := [], nt := 69, pin := 0, nr := true, ys := [] }
theorem F_plaitref14_begun_ok : Sound Try.prog 62 (Spec.shp si_plaitref14_begun so_plaitref14_begun F_plaitref14_begun) :=
  Sound.shp (C := cx_plaitref14_begun) (fn := Try.f62) (by kernel_rfl) (c := bodyOf Try.f62) (by kernel_rfl) (by decide) (ctxOK mixed tbl_ok rfl ⟨F_plaitref14_Last_ok, trivial⟩ trivial) (SumOK.of trivial) (by kernel_rfl) si_plaitref14_begun so_plaitref14_begun rfl (by decide) (by decide) rfl (by decide) rfl F_plaitref14_begun (fun x => by kernel_rfl)
abbrev si_plaitref14_numbered : Shape := { sl := [(0, (.hole (.int .i64)))], bl := [], ts := [(.int .i64)], pin := 0 }
abbrev so_plaitref14_numbered : Shape := { sl := [(0, (.hole .bool))], bl := [], ts := [.bool], pin := 0 }
noncomputable def F_plaitref14_numbered (x : (Int)) : Option (Bool) :=
  bif (x == (3 : Int)) then
    some true
  else
    some (x == (5 : Int))
noncomputable def cx_plaitref14_numbered : Ctx := { tb := mkTb T2.tbl, fx := [], sum := [], nt := 9, pin := 0, nr := true, ys := [] }
theorem F_plaitref14_numbered_ok : Sound Try.prog 82 (Spec.shp si_plaitref14_numbered so_plaitref14_numbered F_plaitref14_numbered) :=
  Sound.shp (C := cx_plaitref14_numbered) (fn := Try.f82) (by kernel_rfl) (c := bodyOf Try.f82) (by kernel_rfl) (by decide) (ctxOK mixed tbl_ok rfl trivial trivial) (SumOK.of trivial) (by kernel_rfl) si_plaitref14_numbered so_plaitref14_numbered rfl (by decide) (by decide) rfl (by decide) rfl F_plaitref14_numbered (fun x => by kernel_rfl)
abbrev si_plaitref14_begins : Shape := { sl := [(0, (.hole (.int .i64)))], bl := [], ts := [(.int .i64)], pin := 0 }
abbrev so_plaitref14_begins : Shape := { sl := [(0, (.hole .bool))], bl := [], ts := [.bool], pin := 0 }
noncomputable def F_plaitref14_begins (x : (Int)) : Option (Bool) :=
  bif (x == (0 : Int)) then
    some true
  else
    bif (x == (3 : Int)) then
      some true
    else
      bif (x == (5 : Int)) then
        some true
      else
        bif (x == (6 : Int)) then
          some true
        else
          bif (x == (9 : Int)) then
            some true
          else
            bif (x == (11 : Int)) then
              some true
            else
              some (x == (15 : Int))
noncomputable def cx_plaitref14_begins : Ctx := { tb := mkTb T2.tbl, fx := [], sum := [], nt := 29, pin := 0, nr := true, ys := [] }
theorem F_plaitref14_begins_ok : Sound Try.prog 83 (Spec.shp si_plaitref14_begins so_plaitref14_begins F_plaitref14_begins) :=
  Sound.shp (C := cx_plaitref14_begins) (fn := Try.f83) (by kernel_rfl) (c := bodyOf Try.f83) (by kernel_rfl) (by decide) (ctxOK mixed tbl_ok rfl trivial trivial) (SumOK.of trivial) (by kernel_rfl) si_plaitref14_begins so_plaitref14_begins rfl (by decide) (by decide) rfl (by decide) rfl F_plaitref14_begins (fun x => by kernel_rfl)
abbrev sh_plaitref14_fields_8 : Shape := { sl := [(7, (.ptr 0 [])), (8, (.hole (.int .i64))), (40, (.hole (.slice (.pair (.int .i64) (.pair (.int .i64) (.pair (.int .i64) (.pair (.int .i64) (.int .i64)))))))), (41, (.hole (.int .i64))), (42, (.hole (.int .i64)))], bl := [.var (.hole (.pair (.int .i64) (.pair (.int .i64) (.pair (.int .i64) (.pair (.int .i64) (.int .i64))))))], ts := [(.int .i64), (.slice (.pair (.int .i64) (.pair (.int .i64) (.pair (.int .i64) (.pair (.int .i64) (.int .i64)))))), (.int .i64), (.int .i64), (.pair (.int .i64) (.pair (.int .i64) (.pair (.int .i64) (.pair (.int .i64) (.int .i64)))))], pin := 0 }
abbrev es_plaitref14_fields_8 : List (ETag × Shape) := [(.exit 0, { sl := [(7, (.ptr 0 [])), (8, (.hole (.int .i64)))], bl := [.var (.hole (.pair (.int .i64) (.pair (.int .i64) (.pair (.int .i64) (.pair (.int .i64) (.int .i64))))))], ts := [(.int .i64), (.pair (.int .i64) (.pair (.int .i64) (.pair (.int .i64) (.pair (.int .i64) (.int .i64)))))], pin := 0 })]
noncomputable def L_plaitref14_fields_8 (x : (Int × List ((Int × (Int × (Int × (Int × Int))))) × Int × Int × (Int × (Int × (Int × (Int × Int)))))) : Option ((Int × List ((Int × (Int × (Int × (Int × Int))))) × Int × Int × (Int × (Int × (Int × (Int × Int))))) ⊕ ((Int × (Int × (Int × (Int × (Int × Int))))))) :=
  bif (decide (x.2.2.2.1 < x.2.2.1)) then
    bif (Go.Proofs.Ytkeolcgggondnaa.VX.inb x.2.2.2.1 (List.length x.2.1)) then
      bif ((Go.Proofs.Ytkeolcgggondnaa.VX.getAt ((0 : Int), ((0 : Int), ((0 : Int), ((0 : Int), (0 : Int))))) x.2.1 (Go.Proofs.Ytkeolcgggondnaa.VX.toN x.2.2.2.1)).2.1 == (0 : Int)) then
        some (.inl ((Go.IntKind.wrap Go.IntKind.i64 (x.1 + (1 : Int))), (x.2.1, (x.2.2.1, ((Go.IntKind.wrap Go.IntKind.i64 (x.2.2.2.1 + (1 : Int))), x.2.2.2.2)))))
      else
        some (.inl (x.1, (x.2.1, (x.2.2.1, ((Go.IntKind.wrap Go.IntKind.i64 (x.2.2.2.1 + (1 : Int))), x.2.2.2.2)))))
    else
      none
  else
    some (.inr (x.1, x.2.2.2.2))
noncomputable def cx_plaitref14_fields_8 : Ctx := { tb := mkTb T2.tbl, fx := [(82, [], Spec.shp si_plaitref14_numbered so_plaitref14_numbered F_plaitref14_numbered), (83, [], Spec.shp si_plaitref14_begins so_plaitref14_begins F_plaitref14_begins)], sum := [], nt := 73, pin := 0, nr := true, ys := [] }
theorem L_plaitref14_fields_8_ok : CSound Try.prog ⟨73, 0, true⟩ (.loop (loopOf 8 Try.f63)) (pieceSpec sh_plaitref14_fields_8 es_plaitref14_fields_8 (loop L_plaitref14_fields_8)) :=
  loop_sound (C := cx_plaitref14_fields_8) (ctxOK mixed tbl_ok rfl ⟨F_plaitref14_numbered_ok, F_plaitref14_begins_ok, trivial⟩ trivial) (SumOK.of trivial) sh_plaitref14_fields_8 es_plaitref14_fields_8 rfl rfl L_plaitref14_fields_8 (fun x => by kernel_rfl)
abbrev si_plaitref14_most : Shape := { sl := [(0, (.hole (.slice (.int .i64)))), (1, (.hole (.int .i64)))], bl := [], ts := [(.slice (.int .i64)), (.int .i64)], pin := 0 }
abbrev so_plaitref14_most : Shape := { sl := [(0, (.hole (.int .i64)))], bl := [], ts := [(.int .i64)], pin := 0 }
noncomputable def F_plaitref14_most (x : (List (Int) × Int)) : Option (Int) :=
  bif (decide (x.2 ≥ (2 : Int))) then
    bif (decide (x.2 ≤ (7 : Int))) then
      some (((List.length x.1) : Nat) : Int)
    else
      bif (x.2 == (8 : Int)) then
        some (4 : Int)
      else
        bif (x.2 == (9 : Int)) then
          some (4 : Int)
        else
          bif (decide (x.2 ≥ (16 : Int))) then
            some (4 : Int)
          else
            bif (decide (x.2 ≥ (10 : Int))) then
              bif (decide (x.2 ≤ (15 : Int))) then
                some (2 : Int)
              else
                some (1 : Int)
            else
              some (1 : Int)
  else
    bif (x.2 == (8 : Int)) then
      some (4 : Int)
    else
      bif (x.2 == (9 : Int)) then
        some (4 : Int)
      else
        bif (decide (x.2 ≥ (16 : Int))) then
          some (4 : Int)
        else
          bif (decide (x.2 ≥ (10 : Int))) then
            bif (decide (x.2 ≤ (15 : Int))) then
              some (2 : Int)
            else
              some (1 : Int)
          else
            some (1 : Int)
noncomputable def cx_plaitref14_most : Ctx := { tb := mkTb T2.tbl, fx := [], sum := [], nt := 29, pin := 0, nr := true, ys := [] }
theorem F_plaitref14_most_ok : Sound Try.prog 84 (Spec.shp si_plaitref14_most so_plaitref14_most F_plaitref14_most) :=
  Sound.shp (C := cx_plaitref14_most) (fn := Try.f84) (by kernel_rfl) (c := bodyOf Try.f84) (by kernel_rfl) (by decide) (ctxOK mixed tbl_ok rfl trivial trivial) (SumOK.of trivial) (by kernel_rfl) si_plaitref14_most so_plaitref14_most rfl (by decide) (by decide) rfl (by decide) rfl F_plaitref14_most (fun x => by kernel_rfl)
abbrev si_plaitref14_fields : Shape := { sl := [(0, (.hole (.slice (.int .i64)))), (1, (.hole (.slice (.pair (.int .i64) (.pair (.int .i64) (.pair (.int .i64) (.pair (.int .i64) (.int .i64)))))))), (2, (.hole (.int .i64)))], bl := [], ts := [(.slice (.int .i64)), (.slice (.pair (.int .i64) (.pair (.int .i64) (.pair (.int .i64) (.pair (.int .i64) (.int .i64)))))), (.int .i64)], pin := 0 }
abbrev so_plaitref14_fields : Shape := { sl := [(0, (.hole .bool))], bl := [], ts := [.bool], pin := 0 }
noncomputable def F_plaitref14_fields (x : (List (Int) × List ((Int × (Int × (Int × (Int × Int))))) × Int)) : Option (Bool) :=
  bif (Go.Proofs.Ytkeolcgggondnaa.VX.inb x.2.2 (List.length x.2.1)) then
    ((F_plaitref14_numbered (Go.Proofs.Ytkeolcgggondnaa.VX.getAt ((0 : Int), ((0 : Int), ((0 : Int), ((0 : Int), (0 : Int))))) x.2.1 (Go.Proofs.Ytkeolcgggondnaa.VX.toN x.2.2)).2.1)).bind fun r12 =>
    bif (Bool.not r12) then
      bif ((Go.Proofs.Ytkeolcgggondnaa.VX.getAt ((0 : Int), ((0 : Int), ((0 : Int), ((0 : Int), (0 : Int))))) x.2.1 (Go.Proofs.Ytkeolcgggondnaa.VX.toN x.2.2)).2.2.2.1 != (0 : Int)) then
        some true
      else
        ((F_plaitref14_begins (Go.Proofs.Ytkeolcgggondnaa.VX.getAt ((0 : Int), ((0 : Int), ((0 : Int), ((0 : Int), (0 : Int))))) x.2.1 (Go.Proofs.Ytkeolcgggondnaa.VX.toN x.2.2)).2.1)).bind fun r13 =>
        bif (Bool.not r13) then
          bif ((Go.Proofs.Ytkeolcgggondnaa.VX.getAt ((0 : Int), ((0 : Int), ((0 : Int), ((0 : Int), (0 : Int))))) x.2.1 (Go.Proofs.Ytkeolcgggondnaa.VX.toN x.2.2)).2.2.2.2 != (Int.negSucc 0)) then
            some true
          else
            bif ((Go.Proofs.Ytkeolcgggondnaa.VX.getAt ((0 : Int), ((0 : Int), ((0 : Int), ((0 : Int), (0 : Int))))) x.2.1 (Go.Proofs.Ytkeolcgggondnaa.VX.toN x.2.2)).2.1 == (1 : Int)) then
              bif (Go.Proofs.Ytkeolcgggondnaa.VX.sub3 (0 : Int) x.2.2 (List.length x.2.1)) then
                ((loop L_plaitref14_fields_8 ((0 : Int), ((Go.Proofs.Ytkeolcgggondnaa.VX.cut x.2.1 (Go.Proofs.Ytkeolcgggondnaa.VX.toN (0 : Int)) ((Go.Proofs.Ytkeolcgggondnaa.VX.toN x.2.2) - (Go.Proofs.Ytkeolcgggondnaa.VX.toN (0 : Int)))), ((((List.length (Go.Proofs.Ytkeolcgggondnaa.VX.cut x.2.1 (Go.Proofs.Ytkeolcgggondnaa.VX.toN (0 : Int)) ((Go.Proofs.Ytkeolcgggondnaa.VX.toN x.2.2) - (Go.Proofs.Ytkeolcgggondnaa.VX.toN (0 : Int))))) : Nat) : Int), ((0 : Int), (Go.Proofs.Ytkeolcgggondnaa.VX.getAt ((0 : Int), ((0 : Int), ((0 : Int), ((0 : Int), (0 : Int))))) x.2.1 (Go.Proofs.Ytkeolcgggondnaa.VX.toN x.2.2)))))))).bind fun r14 =>
                some (r14.2.2.2.1 != r14.1)
              else
                none
            else
              bif ((Go.Proofs.Ytkeolcgggondnaa.VX.getAt ((0 : Int), ((0 : Int), ((0 : Int), ((0 : Int), (0 : Int))))) x.2.1 (Go.Proofs.Ytkeolcgggondnaa.VX.toN x.2.2)).2.1 != (0 : Int)) then
                bif (decide ((Go.Proofs.Ytkeolcgggondnaa.VX.getAt ((0 : Int), ((0 : Int), ((0 : Int), ((0 : Int), (0 : Int))))) x.2.1 (Go.Proofs.Ytkeolcgggondnaa.VX.toN x.2.2)).2.2.1 < (0 : Int))) then
                  some true
                else
                  ((F_plaitref14_most (x.1, (Go.Proofs.Ytkeolcgggondnaa.VX.getAt ((0 : Int), ((0 : Int), ((0 : Int), ((0 : Int), (0 : Int))))) x.2.1 (Go.Proofs.Ytkeolcgggondnaa.VX.toN x.2.2)).2.1))).bind fun r14 =>
                  some (decide ((Go.Proofs.Ytkeolcgggondnaa.VX.getAt ((0 : Int), ((0 : Int), ((0 : Int), ((0 : Int), (0 : Int))))) x.2.1 (Go.Proofs.Ytkeolcgggondnaa.VX.toN x.2.2)).2.2.1 ≥ r14))
              else
                some false
        else
          bif ((Go.Proofs.Ytkeolcgggondnaa.VX.getAt ((0 : Int), ((0 : Int), ((0 : Int), ((0 : Int), (0 : Int))))) x.2.1 (Go.Proofs.Ytkeolcgggondnaa.VX.toN x.2.2)).2.1 == (1 : Int)) then
            bif (Go.Proofs.Ytkeolcgggondnaa.VX.sub3 (0 : Int) x.2.2 (List.length x.2.1)) then
              ((loop L_plaitref14_fields_8 ((0 : Int), ((Go.Proofs.Ytkeolcgggondnaa.VX.cut x.2.1 (Go.Proofs.Ytkeolcgggondnaa.VX.toN (0 : Int)) ((Go.Proofs.Ytkeolcgggondnaa.VX.toN x.2.2) - (Go.Proofs.Ytkeolcgggondnaa.VX.toN (0 : Int)))), ((((List.length (Go.Proofs.Ytkeolcgggondnaa.VX.cut x.2.1 (Go.Proofs.Ytkeolcgggondnaa.VX.toN (0 : Int)) ((Go.Proofs.Ytkeolcgggondnaa.VX.toN x.2.2) - (Go.Proofs.Ytkeolcgggondnaa.VX.toN (0 : Int))))) : Nat) : Int), ((0 : Int), (Go.Proofs.Ytkeolcgggondnaa.VX.getAt ((0 : Int), ((0 : Int), ((0 : Int), ((0 : Int), (0 : Int))))) x.2.1 (Go.Proofs.Ytkeolcgggondnaa.VX.toN x.2.2)))))))).bind fun r14 =>
              some (r14.2.2.2.1 != r14.1)
            else
              none
          else
            bif ((Go.Proofs.Ytkeolcgggondnaa.VX.getAt ((0 : Int), ((0 : Int), ((0 : Int), ((0 : Int), (0 : Int))))) x.2.1 (Go.Proofs.Ytkeolcgggondnaa.VX.toN x.2.2)).2.1 != (0 : Int)) then
              bif (decide ((Go.Proofs.Ytkeolcgggondnaa.VX.getAt ((0 : Int), ((0 : Int), ((0 : Int), ((0 : Int), (0 : Int))))) x.2.1 (Go.Proofs.Ytkeolcgggondnaa.VX.toN x.2.2)).2.2.1 < (0 : Int))) then
                some true
              else
                ((F_plaitref14_most (x.1, (Go.Proofs.Ytkeolcgggondnaa.VX.getAt ((0 : Int), ((0 : Int), ((0 : Int), ((0 : Int), (0 : Int))))) x.2.1 (Go.Proofs.Ytkeolcgggondnaa.VX.toN x.2.2)).2.1))).bind fun r14 =>
                some (decide ((Go.Proofs.Ytkeolcgggondnaa.VX.getAt ((0 : Int), ((0 : Int), ((0 : Int), ((0 : Int), (0 : Int))))) x.2.1 (Go.Proofs.Ytkeolcgggondnaa.VX.toN x.2.2)).2.2.1 ≥ r14))
            else
              some false
    else
      ((F_plaitref14_begins (Go.Proofs.Ytkeolcgggondnaa.VX.getAt ((0 : Int), ((0 : Int), ((0 : Int), ((0 : Int), (0 : Int))))) x.2.1 (Go.Proofs.Ytkeolcgggondnaa.VX.toN x.2.2)).2.1)).bind fun r13 =>
      bif (Bool.not r13) then
        bif ((Go.Proofs.Ytkeolcgggondnaa.VX.getAt ((0 : Int), ((0 : Int), ((0 : Int), ((0 : Int), (0 : Int))))) x.2.1 (Go.Proofs.Ytkeolcgggondnaa.VX.toN x.2.2)).2.2.2.2 != (Int.negSucc 0)) then
          some true
        else
          bif ((Go.Proofs.Ytkeolcgggondnaa.VX.getAt ((0 : Int), ((0 : Int), ((0 : Int), ((0 : Int), (0 : Int))))) x.2.1 (Go.Proofs.Ytkeolcgggondnaa.VX.toN x.2.2)).2.1 == (1 : Int)) then
            bif (Go.Proofs.Ytkeolcgggondnaa.VX.sub3 (0 : Int) x.2.2 (List.length x.2.1)) then
              ((loop L_plaitref14_fields_8 ((0 : Int), ((Go.Proofs.Ytkeolcgggondnaa.VX.cut x.2.1 (Go.Proofs.Ytkeolcgggondnaa.VX.toN (0 : Int)) ((Go.Proofs.Ytkeolcgggondnaa.VX.toN x.2.2) - (Go.Proofs.Ytkeolcgggondnaa.VX.toN (0 : Int)))), ((((List.length (Go.Proofs.Ytkeolcgggondnaa.VX.cut x.2.1 (Go.Proofs.Ytkeolcgggondnaa.VX.toN (0 : Int)) ((Go.Proofs.Ytkeolcgggondnaa.VX.toN x.2.2) - (Go.Proofs.Ytkeolcgggondnaa.VX.toN (0 : Int))))) : Nat) : Int), ((0 : Int), (Go.Proofs.Ytkeolcgggondnaa.VX.getAt ((0 : Int), ((0 : Int), ((0 : Int), ((0 : Int), (0 : Int))))) x.2.1 (Go.Proofs.Ytkeolcgggondnaa.VX.toN x.2.2)))))))).bind fun r14 =>
              some (r14.2.2.2.1 != r14.1)
            else
              none
          else
            bif ((Go.Proofs.Ytkeolcgggondnaa.VX.getAt ((0 : Int), ((0 : Int), ((0 : Int), ((0 : Int), (0 : Int))))) x.2.1 (Go.Proofs.Ytkeolcgggondnaa.VX.toN x.2.2)).2.1 != (0 : Int)) then
              bif (decide ((Go.Proofs.Ytkeolcgggondnaa.VX.getAt ((0 : Int), ((0 : Int), ((0 : Int), ((0 : Int), (0 : Int))))) x.2.1 (Go.Proofs.Ytkeolcgggondnaa.VX.toN x.2.2)).2.2.1 < (0 : Int))) then
                some true
              else
                ((F_plaitref14_most (x.1, (Go.Proofs.Ytkeolcgggondnaa.VX.getAt ((0 : Int), ((0 : Int), ((0 : Int), ((0 : Int), (0 : Int))))) x.2.1 (Go.Proofs.Ytkeolcgggondnaa.VX.toN x.2.2)).2.1))).bind fun r14 =>
                some (decide ((Go.Proofs.Ytkeolcgggondnaa.VX.getAt ((0 : Int), ((0 : Int), ((0 : Int), ((0 : Int), (0 : Int))))) x.2.1 (Go.Proofs.Ytkeolcgggondnaa.VX.toN x.2.2)).2.2.1 ≥ r14))
            else
              some false
      else
        bif ((Go.Proofs.Ytkeolcgggondnaa.VX.getAt ((0 : Int), ((0 : Int), ((0 : Int), ((0 : Int), (0 : Int))))) x.2.1 (Go.Proofs.Ytkeolcgggondnaa.VX.toN x.2.2)).2.1 == (1 : Int)) then
          bif (Go.Proofs.Ytkeolcgggondnaa.VX.sub3 (0 : Int) x.2.2 (List.length x.2.1)) then
            ((loop L_plaitref14_fields_8 ((0 : Int), ((Go.Proofs.Ytkeolcgggondnaa.VX.cut x.2.1 (Go.Proofs.Ytkeolcgggondnaa.VX.toN (0 : Int)) ((Go.Proofs.Ytkeolcgggondnaa.VX.toN x.2.2) - (Go.Proofs.Ytkeolcgggondnaa.VX.toN (0 : Int)))), ((((List.length (Go.Proofs.Ytkeolcgggondnaa.VX.cut x.2.1 (Go.Proofs.Ytkeolcgggondnaa.VX.toN (0 : Int)) ((Go.Proofs.Ytkeolcgggondnaa.VX.toN x.2.2) - (Go.Proofs.Ytkeolcgggondnaa.VX.toN (0 : Int))))) : Nat) : Int), ((0 : Int), (Go.Proofs.Ytkeolcgggondnaa.VX.getAt ((0 : Int), ((0 : Int), ((0 : Int), ((0 : Int), (0 : Int))))) x.2.1 (Go.Proofs.Ytkeolcgggondnaa.VX.toN x.2.2)))))))).bind fun r14 =>
            some (r14.2.2.2.1 != r14.1)
          else
            none
        else
          bif ((Go.Proofs.Ytkeolcgggondnaa.VX.getAt ((0 : Int), ((0 : Int), ((0 : Int), ((0 : Int), (0 : Int))))) x.2.1 (Go.Proofs.Ytkeolcgggondnaa.VX.toN x.2.2)).2.1 != (0 : Int)) then
            bif (decide ((Go.Proofs.Ytkeolcgggondnaa.VX.getAt ((0 : Int), ((0 : Int), ((0 : Int), ((0 : Int), (0 : Int))))) x.2.1 (Go.Proofs.Ytkeolcgggondnaa.VX.toN x.2.2)).2.2.1 < (0 : Int))) then
              some true
            else
              ((F_plaitref14_most (x.1, (Go.Proofs.Ytkeolcgggondnaa.VX.getAt ((0 : Int), ((0 : Int), ((0 : Int), ((0 : Int), (0 : Int))))) x.2.1 (Go.Proofs.Ytkeolcgggondnaa.VX.toN x.2.2)).2.1))).bind fun r14 =>
              some (decide ((Go.Proofs.Ytkeolcgggondnaa.VX.getAt ((0 : Int), ((0 : Int), ((0 : Int), ((0 : Int), (0 : Int))))) x.2.1 (Go.Proofs.Ytkeolcgggondnaa.VX.toN x.2.2)).2.2.1 ≥ r14))
          else
            some false
  else
    none
noncomputable def cx_plaitref14_fields : Ctx := { tb := mkTb T2.tbl, fx := [(82, [], Spec.shp si_plaitref14_numbered so_plaitref14_numbered F_plaitref14_numbered), (83, [], Spec.shp si_plaitref14_begins so_plaitref14_begins F_plaitref14_begins), (84, [], Spec.shp si_plaitref14_most so_plaitref14_most F_plaitref14_most)], sum := [(0, 8, pieceSpec sh_plaitref14_fields_8 es_plaitref14_fields_8 (loop L_plaitref14_fields_8))], nt := 73, pin := 0, nr := true, ys := [] }
theorem F_plaitref14_fields_ok : Sound Try.prog 63 (Spec.shp si_plaitref14_fields so_plaitref14_fields F_plaitref14_fields) :=
  Sound.shp (C := cx_plaitref14_fields) (fn := Try.f63) (by kernel_rfl) (c := bodyOf Try.f63) (by kernel_rfl) (by decide) (ctxOK mixed tbl_ok rfl ⟨F_plaitref14_numbered_ok, F_plaitref14_begins_ok, F_plaitref14_most_ok, trivial⟩ trivial) (SumOK.of ⟨(pieces_one (d := .loop (loopOf 8 Try.f63)) (by kernel_rfl) L_plaitref14_fields_8_ok), trivial⟩) (by kernel_rfl) si_plaitref14_fields so_plaitref14_fields rfl (by decide) (by decide) rfl (by decide) rfl F_plaitref14_fields (fun x => by kernel_rfl)
abbrev si_plaitref14_origin : Shape := { sl := [(0, (.hole (.int .i64)))], bl := [], ts := [(.int .i64)], pin := 0 }
abbrev so_plaitref14_origin : Shape := { sl := [(0, (.hole (.int .i64)))], bl := [], ts := [(.int .i64)], pin := 0 }
noncomputable def F_plaitref14_origin (x : (Int)) : Option (Int) :=
  bif (x == (3 : Int)) then
    some (2 : Int)
  else
    bif (x == (5 : Int)) then
      some (4 : Int)
    else
      bif (x == (6 : Int)) then
        some (4 : Int)
      else
        bif (x == (9 : Int)) then
          some (8 : Int)
        else
          bif (x == (11 : Int)) then
            some (10 : Int)
          else
            some (13 : Int)
noncomputable def cx_plaitref14_origin : Ctx := { tb := mkTb T2.tbl, fx := [], sum := [], nt := 15, pin := 0, nr := true, ys := [] }
theorem F_plaitref14_origin_ok : Sound Try.prog 85 (Spec.shp si_plaitref14_origin so_plaitref14_origin F_plaitref14_origin) :=
  Sound.shp (C := cx_plaitref14_origin) (fn := Try.f85) (by kernel_rfl) (c := bodyOf Try.f85) (by kernel_rfl) (by decide) (ctxOK mixed tbl_ok rfl trivial trivial) (SumOK.of trivial) (by kernel_rfl) si_plaitref14_origin so_plaitref14_origin rfl (by decide) (by decide) rfl (by decide) rfl F_plaitref14_origin (fun x => by kernel_rfl)
abbrev si_plaitref14_began : Shape := { sl := [(0, (.hole (.slice (.pair (.int .i64) (.pair (.int .i64) (.pair (.int .i64) (.pair (.int .i64) (.int .i64)))))))), (1, (.hole (.int .i64)))], bl := [], ts := [(.slice (.pair (.int .i64) (.pair (.int .i64) (.pair (.int .i64) (.pair (.int .i64) (.int .i64)))))), (.int .i64)], pin := 0 }
abbrev so_plaitref14_began : Shape := { sl := [(0, (.hole .bool))], bl := [], ts := [.bool], pin := 0 }
noncomputable def F_plaitref14_began (x : (List ((Int × (Int × (Int × (Int × Int))))) × Int)) : Option (Bool) :=
  bif (Go.Proofs.Ytkeolcgggondnaa.VX.inb x.2 (List.length x.1)) then
    bif ((Go.Proofs.Ytkeolcgggondnaa.VX.getAt ((0 : Int), ((0 : Int), ((0 : Int), ((0 : Int), (0 : Int))))) x.1 (Go.Proofs.Ytkeolcgggondnaa.VX.toN x.2)).2.1 == (0 : Int)) then
      some false
    else
      ((F_plaitref14_begins (Go.Proofs.Ytkeolcgggondnaa.VX.getAt ((0 : Int), ((0 : Int), ((0 : Int), ((0 : Int), (0 : Int))))) x.1 (Go.Proofs.Ytkeolcgggondnaa.VX.toN x.2)).2.1)).bind fun r13 =>
      bif (Bool.not r13) then
        some false
      else
        bif (decide ((Go.Proofs.Ytkeolcgggondnaa.VX.getAt ((0 : Int), ((0 : Int), ((0 : Int), ((0 : Int), (0 : Int))))) x.1 (Go.Proofs.Ytkeolcgggondnaa.VX.toN x.2)).2.2.2.2 < (0 : Int))) then
          some true
        else
          ((F_plaitref14_Last (x.1, x.2))).bind fun r14 =>
          bif ((Go.Proofs.Ytkeolcgggondnaa.VX.getAt ((0 : Int), ((0 : Int), ((0 : Int), ((0 : Int), (0 : Int))))) x.1 (Go.Proofs.Ytkeolcgggondnaa.VX.toN x.2)).2.2.2.2 != r14) then
            some true
          else
            bif (Go.Proofs.Ytkeolcgggondnaa.VX.inb (Go.Proofs.Ytkeolcgggondnaa.VX.getAt ((0 : Int), ((0 : Int), ((0 : Int), ((0 : Int), (0 : Int))))) x.1 (Go.Proofs.Ytkeolcgggondnaa.VX.toN x.2)).2.2.2.2 (List.length x.1)) then
              bif (decide ((Go.Proofs.Ytkeolcgggondnaa.VX.getAt ((0 : Int), ((0 : Int), ((0 : Int), ((0 : Int), (0 : Int))))) x.1 (Go.Proofs.Ytkeolcgggondnaa.VX.toN x.2)).2.1 ≤ (6 : Int))) then
                bif ((Go.Proofs.Ytkeolcgggondnaa.VX.getAt ((0 : Int), ((0 : Int), ((0 : Int), ((0 : Int), (0 : Int))))) x.1 (Go.Proofs.Ytkeolcgggondnaa.VX.toN (Go.Proofs.Ytkeolcgggondnaa.VX.getAt ((0 : Int), ((0 : Int), ((0 : Int), ((0 : Int), (0 : Int))))) x.1 (Go.Proofs.Ytkeolcgggondnaa.VX.toN x.2)).2.2.2.2)).2.1 == (8 : Int)) then
                  some false
                else
                  ((F_plaitref14_origin (Go.Proofs.Ytkeolcgggondnaa.VX.getAt ((0 : Int), ((0 : Int), ((0 : Int), ((0 : Int), (0 : Int))))) x.1 (Go.Proofs.Ytkeolcgggondnaa.VX.toN x.2)).2.1)).bind fun r15 =>
                  bif ((Go.Proofs.Ytkeolcgggondnaa.VX.getAt ((0 : Int), ((0 : Int), ((0 : Int), ((0 : Int), (0 : Int))))) x.1 (Go.Proofs.Ytkeolcgggondnaa.VX.toN (Go.Proofs.Ytkeolcgggondnaa.VX.getAt ((0 : Int), ((0 : Int), ((0 : Int), ((0 : Int), (0 : Int))))) x.1 (Go.Proofs.Ytkeolcgggondnaa.VX.toN x.2)).2.2.2.2)).2.1 != r15) then
                    some true
                  else
                    some ((Go.Proofs.Ytkeolcgggondnaa.VX.getAt ((0 : Int), ((0 : Int), ((0 : Int), ((0 : Int), (0 : Int))))) x.1 (Go.Proofs.Ytkeolcgggondnaa.VX.toN (Go.Proofs.Ytkeolcgggondnaa.VX.getAt ((0 : Int), ((0 : Int), ((0 : Int), ((0 : Int), (0 : Int))))) x.1 (Go.Proofs.Ytkeolcgggondnaa.VX.toN x.2)).2.2.2.2)).2.2.1 != (Go.Proofs.Ytkeolcgggondnaa.VX.getAt ((0 : Int), ((0 : Int), ((0 : Int), ((0 : Int), (0 : Int))))) x.1 (Go.Proofs.Ytkeolcgggondnaa.VX.toN x.2)).2.2.1)
              else
                ((F_plaitref14_origin (Go.Proofs.Ytkeolcgggondnaa.VX.getAt ((0 : Int), ((0 : Int), ((0 : Int), ((0 : Int), (0 : Int))))) x.1 (Go.Proofs.Ytkeolcgggondnaa.VX.toN x.2)).2.1)).bind fun r15 =>
                bif ((Go.Proofs.Ytkeolcgggondnaa.VX.getAt ((0 : Int), ((0 : Int), ((0 : Int), ((0 : Int), (0 : Int))))) x.1 (Go.Proofs.Ytkeolcgggondnaa.VX.toN (Go.Proofs.Ytkeolcgggondnaa.VX.getAt ((0 : Int), ((0 : Int), ((0 : Int), ((0 : Int), (0 : Int))))) x.1 (Go.Proofs.Ytkeolcgggondnaa.VX.toN x.2)).2.2.2.2)).2.1 != r15) then
                  some true
                else
                  some ((Go.Proofs.Ytkeolcgggondnaa.VX.getAt ((0 : Int), ((0 : Int), ((0 : Int), ((0 : Int), (0 : Int))))) x.1 (Go.Proofs.Ytkeolcgggondnaa.VX.toN (Go.Proofs.Ytkeolcgggondnaa.VX.getAt ((0 : Int), ((0 : Int), ((0 : Int), ((0 : Int), (0 : Int))))) x.1 (Go.Proofs.Ytkeolcgggondnaa.VX.toN x.2)).2.2.2.2)).2.2.1 != (Go.Proofs.Ytkeolcgggondnaa.VX.getAt ((0 : Int), ((0 : Int), ((0 : Int), ((0 : Int), (0 : Int))))) x.1 (Go.Proofs.Ytkeolcgggondnaa.VX.toN x.2)).2.2.1)
            else
              none
  else
    none
noncomputable def cx_plaitref14_began : Ctx := { tb := mkTb T2.tbl, fx := [(83, [], Spec.shp si_plaitref14_begins so_plaitref14_begins F_plaitref14_begins), (14, [], Spec.shp si_plaitref14_Last so_plaitref14_Last F_plaitref14_Last), (85, [], Spec.shp si_plaitref14_origin so_plaitref14_origin F_plaitref14_origin)], sum := [], nt := 57, pin := 0, nr := true, ys := [] }
theorem F_plaitref14_began_ok : Sound Try.prog 64 (Spec.shp si_plaitref14_began so_plaitref14_began F_plaitref14_began) :=
  Sound.shp (C := cx_plaitref14_began) (fn := Try.f64) (by kernel_rfl) (c := bodyOf Try.f64) (by kernel_rfl) (by decide) (ctxOK mixed tbl_ok rfl ⟨F_plaitref14_begins_ok, F_plaitref14_Last_ok, F_plaitref14_origin_ok, trivial⟩ trivial) (SumOK.of trivial) (by kernel_rfl) si_plaitref14_began so_plaitref14_began rfl (by decide) (by decide) rfl (by decide) rfl F_plaitref14_began (fun x => by kernel_rfl)
abbrev si_plaitref14_channel : Shape := { sl := [(0, (.hole (.slice (.int .i64)))), (1, (.hole (.slice (.pair (.int .i64) (.pair (.int .i64) (.pair (.int .i64) (.pair (.int .i64) (.int .i64)))))))), (2, (.hole (.int .i64)))], bl := [], ts := [(.slice (.int .i64)), (.slice (.pair (.int .i64) (.pair (.int .i64) (.pair (.int .i64) (.pair (.int .i64) (.int .i64)))))), (.int .i64)], pin := 0 }
abbrev so_plaitref14_channel : Shape := { sl := [(0, (.hole .bool))], bl := [], ts := [.bool], pin := 0 }
noncomputable def F_plaitref14_channel (x : (List (Int) × List ((Int × (Int × (Int × (Int × Int))))) × Int)) : Option (Bool) :=
  bif (Go.Proofs.Ytkeolcgggondnaa.VX.inb x.2.2 (List.length x.2.1)) then
    bif ((Go.Proofs.Ytkeolcgggondnaa.VX.getAt ((0 : Int), ((0 : Int), ((0 : Int), ((0 : Int), (0 : Int))))) x.2.1 (Go.Proofs.Ytkeolcgggondnaa.VX.toN x.2.2)).2.1 != (3 : Int)) then
      bif (decide ((Go.Proofs.Ytkeolcgggondnaa.VX.getAt ((0 : Int), ((0 : Int), ((0 : Int), ((0 : Int), (0 : Int))))) x.2.1 (Go.Proofs.Ytkeolcgggondnaa.VX.toN x.2.2)).2.1 < (5 : Int))) then
        some false
      else
        bif (decide ((Go.Proofs.Ytkeolcgggondnaa.VX.getAt ((0 : Int), ((0 : Int), ((0 : Int), ((0 : Int), (0 : Int))))) x.2.1 (Go.Proofs.Ytkeolcgggondnaa.VX.toN x.2.2)).2.1 > (7 : Int))) then
          some false
        else
          ((F_plaitref14_Count (x.2.1, (x.2.2, ((3 : Int), (Go.Proofs.Ytkeolcgggondnaa.VX.getAt ((0 : Int), ((0 : Int), ((0 : Int), ((0 : Int), (0 : Int))))) x.2.1 (Go.Proofs.Ytkeolcgggondnaa.VX.toN x.2.2)).2.2.1))))).bind fun r14 =>
          ((F_plaitref14_Count (x.2.1, (x.2.2, ((5 : Int), (Go.Proofs.Ytkeolcgggondnaa.VX.getAt ((0 : Int), ((0 : Int), ((0 : Int), ((0 : Int), (0 : Int))))) x.2.1 (Go.Proofs.Ytkeolcgggondnaa.VX.toN x.2.2)).2.2.1))))).bind fun r15 =>
          ((F_plaitref14_Count (x.2.1, (x.2.2, ((7 : Int), (Go.Proofs.Ytkeolcgggondnaa.VX.getAt ((0 : Int), ((0 : Int), ((0 : Int), ((0 : Int), (0 : Int))))) x.2.1 (Go.Proofs.Ytkeolcgggondnaa.VX.toN x.2.2)).2.2.1))))).bind fun r16 =>
          bif (Go.Proofs.Ytkeolcgggondnaa.VX.inb (Go.Proofs.Ytkeolcgggondnaa.VX.getAt ((0 : Int), ((0 : Int), ((0 : Int), ((0 : Int), (0 : Int))))) x.2.1 (Go.Proofs.Ytkeolcgggondnaa.VX.toN x.2.2)).2.2.1 (List.length x.1)) then
            bif (decide ((Go.Proofs.Ytkeolcgggondnaa.VX.getAt (0 : Int) x.1 (Go.Proofs.Ytkeolcgggondnaa.VX.toN (Go.Proofs.Ytkeolcgggondnaa.VX.getAt ((0 : Int), ((0 : Int), ((0 : Int), ((0 : Int), (0 : Int))))) x.2.1 (Go.Proofs.Ytkeolcgggondnaa.VX.toN x.2.2)).2.2.1)) < (0 : Int))) then
              some true
            else
              bif ((Go.Proofs.Ytkeolcgggondnaa.VX.getAt ((0 : Int), ((0 : Int), ((0 : Int), ((0 : Int), (0 : Int))))) x.2.1 (Go.Proofs.Ytkeolcgggondnaa.VX.toN x.2.2)).2.1 == (3 : Int)) then
                bif (decide (r16 > (0 : Int))) then
                  some true
                else
                  bif ((Go.Proofs.Ytkeolcgggondnaa.VX.getAt ((0 : Int), ((0 : Int), ((0 : Int), ((0 : Int), (0 : Int))))) x.2.1 (Go.Proofs.Ytkeolcgggondnaa.VX.toN x.2.2)).2.2.2.1 != r14) then
                    some true
                  else
                    bif (Go.Proofs.Ytkeolcgggondnaa.VX.inb (Go.Proofs.Ytkeolcgggondnaa.VX.getAt ((0 : Int), ((0 : Int), ((0 : Int), ((0 : Int), (0 : Int))))) x.2.1 (Go.Proofs.Ytkeolcgggondnaa.VX.toN x.2.2)).2.2.1 (List.length x.1)) then
                      some (decide ((Go.Proofs.Ytkeolcgggondnaa.VX.getAt ((0 : Int), ((0 : Int), ((0 : Int), ((0 : Int), (0 : Int))))) x.2.1 (Go.Proofs.Ytkeolcgggondnaa.VX.toN x.2.2)).2.2.2.1 > (Go.IntKind.wrap Go.IntKind.i64 (r15 + (Go.Proofs.Ytkeolcgggondnaa.VX.getAt (0 : Int) x.1 (Go.Proofs.Ytkeolcgggondnaa.VX.toN (Go.Proofs.Ytkeolcgggondnaa.VX.getAt ((0 : Int), ((0 : Int), ((0 : Int), ((0 : Int), (0 : Int))))) x.2.1 (Go.Proofs.Ytkeolcgggondnaa.VX.toN x.2.2)).2.2.1))))))
                    else
                      none
              else
                bif ((Go.Proofs.Ytkeolcgggondnaa.VX.getAt ((0 : Int), ((0 : Int), ((0 : Int), ((0 : Int), (0 : Int))))) x.2.1 (Go.Proofs.Ytkeolcgggondnaa.VX.toN x.2.2)).2.1 == (5 : Int)) then
                  bif ((Go.Proofs.Ytkeolcgggondnaa.VX.getAt ((0 : Int), ((0 : Int), ((0 : Int), ((0 : Int), (0 : Int))))) x.2.1 (Go.Proofs.Ytkeolcgggondnaa.VX.toN x.2.2)).2.2.2.1 != r15) then
                    some true
                  else
                    some (decide ((Go.Proofs.Ytkeolcgggondnaa.VX.getAt ((0 : Int), ((0 : Int), ((0 : Int), ((0 : Int), (0 : Int))))) x.2.1 (Go.Proofs.Ytkeolcgggondnaa.VX.toN x.2.2)).2.2.2.1 > r14))
                else
                  bif ((Go.Proofs.Ytkeolcgggondnaa.VX.getAt ((0 : Int), ((0 : Int), ((0 : Int), ((0 : Int), (0 : Int))))) x.2.1 (Go.Proofs.Ytkeolcgggondnaa.VX.toN x.2.2)).2.1 == (6 : Int)) then
                    bif (Bool.not (decide (r16 > (0 : Int)))) then
                      some true
                    else
                      some (r14 != r15)
                  else
                    some (decide (r16 > (0 : Int)))
          else
            none
    else
      ((F_plaitref14_Count (x.2.1, (x.2.2, ((3 : Int), (Go.Proofs.Ytkeolcgggondnaa.VX.getAt ((0 : Int), ((0 : Int), ((0 : Int), ((0 : Int), (0 : Int))))) x.2.1 (Go.Proofs.Ytkeolcgggondnaa.VX.toN x.2.2)).2.2.1))))).bind fun r14 =>
      ((F_plaitref14_Count (x.2.1, (x.2.2, ((5 : Int), (Go.Proofs.Ytkeolcgggondnaa.VX.getAt ((0 : Int), ((0 : Int), ((0 : Int), ((0 : Int), (0 : Int))))) x.2.1 (Go.Proofs.Ytkeolcgggondnaa.VX.toN x.2.2)).2.2.1))))).bind fun r15 =>
      ((F_plaitref14_Count (x.2.1, (x.2.2, ((7 : Int), (Go.Proofs.Ytkeolcgggondnaa.VX.getAt ((0 : Int), ((0 : Int), ((0 : Int), ((0 : Int), (0 : Int))))) x.2.1 (Go.Proofs.Ytkeolcgggondnaa.VX.toN x.2.2)).2.2.1))))).bind fun r16 =>
      bif (Go.Proofs.Ytkeolcgggondnaa.VX.inb (Go.Proofs.Ytkeolcgggondnaa.VX.getAt ((0 : Int), ((0 : Int), ((0 : Int), ((0 : Int), (0 : Int))))) x.2.1 (Go.Proofs.Ytkeolcgggondnaa.VX.toN x.2.2)).2.2.1 (List.length x.1)) then
        bif (decide ((Go.Proofs.Ytkeolcgggondnaa.VX.getAt (0 : Int) x.1 (Go.Proofs.Ytkeolcgggondnaa.VX.toN (Go.Proofs.Ytkeolcgggondnaa.VX.getAt ((0 : Int), ((0 : Int), ((0 : Int), ((0 : Int), (0 : Int))))) x.2.1 (Go.Proofs.Ytkeolcgggondnaa.VX.toN x.2.2)).2.2.1)) < (0 : Int))) then
          some true
        else
          bif ((Go.Proofs.Ytkeolcgggondnaa.VX.getAt ((0 : Int), ((0 : Int), ((0 : Int), ((0 : Int), (0 : Int))))) x.2.1 (Go.Proofs.Ytkeolcgggondnaa.VX.toN x.2.2)).2.1 == (3 : Int)) then
            bif (decide (r16 > (0 : Int))) then
              some true
            else
              bif ((Go.Proofs.Ytkeolcgggondnaa.VX.getAt ((0 : Int), ((0 : Int), ((0 : Int), ((0 : Int), (0 : Int))))) x.2.1 (Go.Proofs.Ytkeolcgggondnaa.VX.toN x.2.2)).2.2.2.1 != r14) then
                some true
              else
                bif (Go.Proofs.Ytkeolcgggondnaa.VX.inb (Go.Proofs.Ytkeolcgggondnaa.VX.getAt ((0 : Int), ((0 : Int), ((0 : Int), ((0 : Int), (0 : Int))))) x.2.1 (Go.Proofs.Ytkeolcgggondnaa.VX.toN x.2.2)).2.2.1 (List.length x.1)) then
                  some (decide ((Go.Proofs.Ytkeolcgggondnaa.VX.getAt ((0 : Int), ((0 : Int), ((0 : Int), ((0 : Int), (0 : Int))))) x.2.1 (Go.Proofs.Ytkeolcgggondnaa.VX.toN x.2.2)).2.2.2.1 > (Go.IntKind.wrap Go.IntKind.i64 (r15 + (Go.Proofs.Ytkeolcgggondnaa.VX.getAt (0 : Int) x.1 (Go.Proofs.Ytkeolcgggondnaa.VX.toN (Go.Proofs.Ytkeolcgggondnaa.VX.getAt ((0 : Int), ((0 : Int), ((0 : Int), ((0 : Int), (0 : Int))))) x.2.1 (Go.Proofs.Ytkeolcgggondnaa.VX.toN x.2.2)).2.2.1))))))
                else
                  none
          else
            bif ((Go.Proofs.Ytkeolcgggondnaa.VX.getAt ((0 : Int), ((0 : Int), ((0 : Int), ((0 : Int), (0 : Int))))) x.2.1 (Go.Proofs.Ytkeolcgggondnaa.VX.toN x.2.2)).2.1 == (5 : Int)) then
              bif ((Go.Proofs.Ytkeolcgggondnaa.VX.getAt ((0 : Int), ((0 : Int), ((0 : Int), ((0 : Int), (0 : Int))))) x.2.1 (Go.Proofs.Ytkeolcgggondnaa.VX.toN x.2.2)).2.2.2.1 != r15) then
                some true
              else
                some (decide ((Go.Proofs.Ytkeolcgggondnaa.VX.getAt ((0 : Int), ((0 : Int), ((0 : Int), ((0 : Int), (0 : Int))))) x.2.1 (Go.Proofs.Ytkeolcgggondnaa.VX.toN x.2.2)).2.2.2.1 > r14))
            else
              bif ((Go.Proofs.Ytkeolcgggondnaa.VX.getAt ((0 : Int), ((0 : Int), ((0 : Int), ((0 : Int), (0 : Int))))) x.2.1 (Go.Proofs.Ytkeolcgggondnaa.VX.toN x.2.2)).2.1 == (6 : Int)) then
                bif (Bool.not (decide (r16 > (0 : Int)))) then
                  some true
                else
                  some (r14 != r15)
              else
                some (decide (r16 > (0 : Int)))
      else
        none
  else
    none
noncomputable def cx_plaitref14_channel : Ctx := { tb := mkTb T2.tbl, fx := [(15, [], Spec.shp si_plaitref14_Count so_plaitref14_Count F_plaitref14_Count)], sum := [], nt := 96, pin := 0, nr := true, ys := [] }
theorem F_plaitref14_channel_ok : Sound Try.prog 65 (Spec.shp si_plaitref14_channel so_plaitref14_channel F_plaitref14_channel) :=
  Sound.shp (C := cx_plaitref14_channel) (fn := Try.f65) (by kernel_rfl) (c := bodyOf Try.f65) (by kernel_rfl) (by decide) (ctxOK mixed tbl_ok rfl ⟨F_plaitref14_Count_ok, trivial⟩ trivial) (SumOK.of trivial) (by kernel_rfl) si_plaitref14_channel so_plaitref14_channel rfl (by decide) (by decide) rfl (by decide) rfl F_plaitref14_channel (fun x => by kernel_rfl)
abbrev sh_plaitref14_ender_6 : Shape := { sl := [(0, (.hole (.slice (.pair (.int .i64) (.pair (.int .i64) (.pair (.int .i64) (.pair (.int .i64) (.int .i64)))))))), (1, (.hole (.int .i64))), (5, (.ptr 0 [])), (23, (.hole (.slice (.pair (.int .i64) (.pair (.int .i64) (.pair (.int .i64) (.pair (.int .i64) (.int .i64)))))))), (24, (.hole (.int .i64))), (25, (.hole (.int .i64)))], bl := [.var (.hole (.pair (.int .i64) (.pair (.int .i64) (.pair (.int .i64) (.pair (.int .i64) (.int .i64))))))], ts := [(.slice (.pair (.int .i64) (.pair (.int .i64) (.pair (.int .i64) (.pair (.int .i64) (.int .i64)))))), (.int .i64), (.slice (.pair (.int .i64) (.pair (.int .i64) (.pair (.int .i64) (.pair (.int .i64) (.int .i64)))))), (.int .i64), (.int .i64), (.pair (.int .i64) (.pair (.int .i64) (.pair (.int .i64) (.pair (.int .i64) (.int .i64)))))], pin := 0 }
abbrev es_plaitref14_ender_6 : List (ETag × Shape) := [(.ret, { sl := [(4, (.hole .bool))], bl := [], ts := [.bool], pin := 0 }), (.exit 0, { sl := [], bl := [], ts := [], pin := 0 })]
noncomputable def L_plaitref14_ender_6 (x : (List ((Int × (Int × (Int × (Int × Int))))) × Int × List ((Int × (Int × (Int × (Int × Int))))) × Int × Int × (Int × (Int × (Int × (Int × Int)))))) : Option ((List ((Int × (Int × (Int × (Int × Int))))) × Int × List ((Int × (Int × (Int × (Int × Int))))) × Int × Int × (Int × (Int × (Int × (Int × Int))))) ⊕ ((Bool) ⊕ Unit)) :=
  bif (decide (x.2.2.2.2.1 < x.2.2.2.1)) then
    bif (Go.Proofs.Ytkeolcgggondnaa.VX.inb x.2.2.2.2.1 (List.length x.2.2.1)) then
      bif ((Go.Proofs.Ytkeolcgggondnaa.VX.getAt ((0 : Int), ((0 : Int), ((0 : Int), ((0 : Int), (0 : Int))))) x.2.2.1 (Go.Proofs.Ytkeolcgggondnaa.VX.toN x.2.2.2.2.1)).2.1 == (13 : Int)) then
        bif ((Go.Proofs.Ytkeolcgggondnaa.VX.getAt ((0 : Int), ((0 : Int), ((0 : Int), ((0 : Int), (0 : Int))))) x.2.2.1 (Go.Proofs.Ytkeolcgggondnaa.VX.toN x.2.2.2.2.1)).2.2.1 == x.2.2.2.2.2.2.2.1) then
          bif ((Go.Proofs.Ytkeolcgggondnaa.VX.getAt ((0 : Int), ((0 : Int), ((0 : Int), ((0 : Int), (0 : Int))))) x.2.2.1 (Go.Proofs.Ytkeolcgggondnaa.VX.toN x.2.2.2.2.1)).1 != x.2.2.2.2.2.1) then
            some (.inr (.inl true))
          else
            ((F_plaitref14_Count (x.1, (x.2.1, ((14 : Int), x.2.2.2.2.2.2.2.1))))).bind fun r19 =>
            some (.inr (.inl (decide (r19 > (0 : Int)))))
        else
          some (.inl (x.1, (x.2.1, (x.2.2.1, (x.2.2.2.1, ((Go.IntKind.wrap Go.IntKind.i64 (x.2.2.2.2.1 + (1 : Int))), x.2.2.2.2.2))))))
      else
        some (.inl (x.1, (x.2.1, (x.2.2.1, (x.2.2.2.1, ((Go.IntKind.wrap Go.IntKind.i64 (x.2.2.2.2.1 + (1 : Int))), x.2.2.2.2.2))))))
    else
      none
  else
    some (.inr (.inr ()))
noncomputable def cx_plaitref14_ender_6 : Ctx := { tb := mkTb T2.tbl, fx := [(15, [], Spec.shp si_plaitref14_Count so_plaitref14_Count F_plaitref14_Count)], sum := [], nt := 53, pin := 0, nr := true, ys := [] }
theorem L_plaitref14_ender_6_ok : CSound Try.prog ⟨53, 0, true⟩ (.loop (loopOf 6 Try.f86)) (pieceSpec sh_plaitref14_ender_6 es_plaitref14_ender_6 (loop L_plaitref14_ender_6)) :=
  loop_sound (C := cx_plaitref14_ender_6) (ctxOK mixed tbl_ok rfl ⟨F_plaitref14_Count_ok, trivial⟩ trivial) (SumOK.of trivial) sh_plaitref14_ender_6 es_plaitref14_ender_6 rfl rfl L_plaitref14_ender_6 (fun x => by kernel_rfl)
abbrev si_plaitref14_ender : Shape := { sl := [(0, (.hole (.slice (.pair (.int .i64) (.pair (.int .i64) (.pair (.int .i64) (.pair (.int .i64) (.int .i64)))))))), (1, (.hole (.int .i64)))], bl := [], ts := [(.slice (.pair (.int .i64) (.pair (.int .i64) (.pair (.int .i64) (.pair (.int .i64) (.int .i64)))))), (.int .i64)], pin := 0 }
abbrev so_plaitref14_ender : Shape := { sl := [(0, (.hole .bool))], bl := [], ts := [.bool], pin := 0 }
noncomputable def F_plaitref14_ender (x : (List ((Int × (Int × (Int × (Int × Int))))) × Int)) : Option (Bool) :=
  bif (Go.Proofs.Ytkeolcgggondnaa.VX.inb x.2 (List.length x.1)) then
    bif ((Go.Proofs.Ytkeolcgggondnaa.VX.getAt ((0 : Int), ((0 : Int), ((0 : Int), ((0 : Int), (0 : Int))))) x.1 (Go.Proofs.Ytkeolcgggondnaa.VX.toN x.2)).2.1 == (15 : Int)) then
      ((F_plaitref14_Count (x.1, (x.2, ((14 : Int), (Go.Proofs.Ytkeolcgggondnaa.VX.getAt ((0 : Int), ((0 : Int), ((0 : Int), ((0 : Int), (0 : Int))))) x.1 (Go.Proofs.Ytkeolcgggondnaa.VX.toN x.2)).2.2.1))))).bind fun r18 =>
      some (r18 == (0 : Int))
    else
      bif (Go.Proofs.Ytkeolcgggondnaa.VX.sub3 (0 : Int) x.2 (List.length x.1)) then
        ((loop L_plaitref14_ender_6 (x.1, (x.2, ((Go.Proofs.Ytkeolcgggondnaa.VX.cut x.1 (Go.Proofs.Ytkeolcgggondnaa.VX.toN (0 : Int)) ((Go.Proofs.Ytkeolcgggondnaa.VX.toN x.2) - (Go.Proofs.Ytkeolcgggondnaa.VX.toN (0 : Int)))), ((((List.length (Go.Proofs.Ytkeolcgggondnaa.VX.cut x.1 (Go.Proofs.Ytkeolcgggondnaa.VX.toN (0 : Int)) ((Go.Proofs.Ytkeolcgggondnaa.VX.toN x.2) - (Go.Proofs.Ytkeolcgggondnaa.VX.toN (0 : Int))))) : Nat) : Int), ((0 : Int), (Go.Proofs.Ytkeolcgggondnaa.VX.getAt ((0 : Int), ((0 : Int), ((0 : Int), ((0 : Int), (0 : Int))))) x.1 (Go.Proofs.Ytkeolcgggondnaa.VX.toN x.2))))))))).bind fun r18 =>
        match r18 with
        | .inl y19 =>
          some y19
        | .inr y19 =>
          some true
      else
        none
  else
    none
noncomputable def cx_plaitref14_ender : Ctx := { tb := mkTb T2.tbl, fx := [(15, [], Spec.shp si_plaitref14_Count so_plaitref14_Count F_plaitref14_Count)], sum := [(0, 6, pieceSpec sh_plaitref14_ender_6 es_plaitref14_ender_6 (loop L_plaitref14_ender_6))], nt := 53, pin := 0, nr := true, ys := [] }
theorem F_plaitref14_ender_ok : Sound Try.prog 86 (Spec.shp si_plaitref14_ender so_plaitref14_ender F_plaitref14_ender) :=
  Sound.shp (C := cx_plaitref14_ender) (fn := Try.f86) (by kernel_rfl) (c := bodyOf Try.f86) (by kernel_rfl) (by decide) (ctxOK mixed tbl_ok rfl ⟨F_plaitref14_Count_ok, trivial⟩ trivial) (SumOK.of ⟨(pieces_one (d := .loop (loopOf 6 Try.f86)) (by kernel_rfl) L_plaitref14_ender_6_ok), trivial⟩) (by kernel_rfl) si_plaitref14_ender so_plaitref14_ender rfl (by decide) (by decide) rfl (by decide) rfl F_plaitref14_ender (fun x => by kernel_rfl)
abbrev si_plaitref14_sync : Shape := { sl := [(0, (.hole (.slice (.pair (.int .i64) (.pair (.int .i64) (.pair (.int .i64) (.pair (.int .i64) (.int .i64)))))))), (1, (.hole (.int .i64)))], bl := [], ts := [(.slice (.pair (.int .i64) (.pair (.int .i64) (.pair (.int .i64) (.pair (.int .i64) (.int .i64)))))), (.int .i64)], pin := 0 }
abbrev so_plaitref14_sync : Shape := { sl := [(0, (.hole .bool))], bl := [], ts := [.bool], pin := 0 }
noncomputable def F_plaitref14_sync (x : (List ((Int × (Int × (Int × (Int × Int))))) × Int)) : Option (Bool) :=
  bif (Go.Proofs.Ytkeolcgggondnaa.VX.inb x.2 (List.length x.1)) then
    ((F_plaitref14_Count (x.1, (x.2, ((11 : Int), (Go.Proofs.Ytkeolcgggondnaa.VX.getAt ((0 : Int), ((0 : Int), ((0 : Int), ((0 : Int), (0 : Int))))) x.1 (Go.Proofs.Ytkeolcgggondnaa.VX.toN x.2)).2.2.1))))).bind fun r15 =>
    ((F_plaitref14_Count (x.1, (x.2, ((12 : Int), (Go.Proofs.Ytkeolcgggondnaa.VX.getAt ((0 : Int), ((0 : Int), ((0 : Int), ((0 : Int), (0 : Int))))) x.1 (Go.Proofs.Ytkeolcgggondnaa.VX.toN x.2)).2.2.1))))).bind fun r16 =>
    bif ((Go.Proofs.Ytkeolcgggondnaa.VX.getAt ((0 : Int), ((0 : Int), ((0 : Int), ((0 : Int), (0 : Int))))) x.1 (Go.Proofs.Ytkeolcgggondnaa.VX.toN x.2)).2.1 == (11 : Int)) then
      some ((Go.IntKind.wrap Go.IntKind.i64 (r15 - r16)) != (0 : Int))
    else
      bif ((Go.Proofs.Ytkeolcgggondnaa.VX.getAt ((0 : Int), ((0 : Int), ((0 : Int), ((0 : Int), (0 : Int))))) x.1 (Go.Proofs.Ytkeolcgggondnaa.VX.toN x.2)).2.1 == (12 : Int)) then
        some ((Go.IntKind.wrap Go.IntKind.i64 (r15 - r16)) != (1 : Int))
      else
        bif ((Go.Proofs.Ytkeolcgggondnaa.VX.getAt ((0 : Int), ((0 : Int), ((0 : Int), ((0 : Int), (0 : Int))))) x.1 (Go.Proofs.Ytkeolcgggondnaa.VX.toN x.2)).2.1 == (14 : Int)) then
          ((F_plaitref14_ender (x.1, x.2))).bind fun r17 =>
          some r17
        else
          bif ((Go.Proofs.Ytkeolcgggondnaa.VX.getAt ((0 : Int), ((0 : Int), ((0 : Int), ((0 : Int), (0 : Int))))) x.1 (Go.Proofs.Ytkeolcgggondnaa.VX.toN x.2)).2.1 == (15 : Int)) then
            ((F_plaitref14_ender (x.1, x.2))).bind fun r17 =>
            some r17
          else
            some false
  else
    none
noncomputable def cx_plaitref14_sync : Ctx := { tb := mkTb T2.tbl, fx := [(15, [], Spec.shp si_plaitref14_Count so_plaitref14_Count F_plaitref14_Count), (86, [], Spec.shp si_plaitref14_ender so_plaitref14_ender F_plaitref14_ender)], sum := [], nt := 45, pin := 0, nr := true, ys := [] }
theorem F_plaitref14_sync_ok : Sound Try.prog 66 (Spec.shp si_plaitref14_sync so_plaitref14_sync F_plaitref14_sync) :=
  Sound.shp (C := cx_plaitref14_sync) (fn := Try.f66) (by kernel_rfl) (c := bodyOf Try.f66) (by kernel_rfl) (by decide) (ctxOK mixed tbl_ok rfl ⟨F_plaitref14_Count_ok, F_plaitref14_ender_ok, trivial⟩ trivial) (SumOK.of trivial) (by kernel_rfl) si_plaitref14_sync so_plaitref14_sync rfl (by decide) (by decide) rfl (by decide) rfl F_plaitref14_sync (fun x => by kernel_rfl)
abbrev si_plaitref14_bad : Shape := { sl := [(0, (.hole (.slice (.int .i64)))), (1, (.hole (.slice (.pair (.int .i64) (.pair (.int .i64) (.pair (.int .i64) (.pair (.int .i64) (.int .i64)))))))), (2, (.hole (.int .i64)))], bl := [], ts := [(.slice (.int .i64)), (.slice (.pair (.int .i64) (.pair (.int .i64) (.pair (.int .i64) (.pair (.int .i64) (.int .i64)))))), (.int .i64)], pin := 0 }
abbrev so_plaitref14_bad : Shape := { sl := [(0, (.hole .bool))], bl := [], ts := [.bool], pin := 0 }
noncomputable def F_plaitref14_bad (x : (List (Int) × List ((Int × (Int × (Int × (Int × Int))))) × Int)) : Option (Bool) :=
  ((F_plaitref14_shape (x.2.1, x.2.2))).bind fun r9 =>
  bif r9 then
    some true
  else
    ((F_plaitref14_begun (x.2.1, x.2.2))).bind fun r10 =>
    bif r10 then
      some true
    else
      ((F_plaitref14_fields (x.1, (x.2.1, x.2.2)))).bind fun r11 =>
      bif r11 then
        some true
      else
        ((F_plaitref14_began (x.2.1, x.2.2))).bind fun r12 =>
        bif r12 then
          some true
        else
          ((F_plaitref14_channel (x.1, (x.2.1, x.2.2)))).bind fun r13 =>
          bif r13 then
            some true
          else
            ((F_plaitref14_sync (x.2.1, x.2.2))).bind fun r14 =>
            some r14
noncomputable def cx_plaitref14_bad : Ctx := { tb := mkTb T2.tbl, fx := [(61, [], Spec.shp si_plaitref14_shape so_plaitref14_shape F_plaitref14_shape), (62, [], Spec.shp si_plaitref14_begun so_plaitref14_begun F_plaitref14_begun), (63, [], Spec.shp si_plaitref14_fields so_plaitref14_fields F_plaitref14_fields), (64, [], Spec.shp si_plaitref14_began so_plaitref14_began F_plaitref14_began), (65, [], Spec.shp si_plaitref14_channel so_plaitref14_channel F_plaitref14_channel), (66, [], Spec.shp si_plaitref14_sync so_plaitref14_sync F_plaitref14_sync)], sum := [], nt := 37, pin := 0, nr := true, ys := [] }
theorem F_plaitref14_bad_ok : Sound Try.prog 36 (Spec.shp si_plaitref14_bad so_plaitref14_bad F_plaitref14_bad) :=
  Sound.shp (C := cx_plaitref14_bad) (fn := Try.f36) (by kernel_rfl) (c := bodyOf Try.f36) (by kernel_rfl) (by decide) (ctxOK mixed tbl_ok rfl ⟨F_plaitref14_shape_ok, F_plaitref14_begun_ok, F_plaitref14_fields_ok, F_plaitref14_began_ok, F_plaitref14_channel_ok, F_plaitref14_sync_ok, trivial⟩ trivial) (SumOK.of trivial) (by kernel_rfl) si_plaitref14_bad so_plaitref14_bad rfl (by decide) (by decide) rfl (by decide) rfl F_plaitref14_bad (fun x => by kernel_rfl)
abbrev sh_plaitref14_Wrong_3 : Shape := { sl := [(0, (.hole (.slice (.int .i64)))), (1, (.hole (.slice (.pair (.int .i64) (.pair (.int .i64) (.pair (.int .i64) (.pair (.int .i64) (.int .i64)))))))), (7, (.hole (.int .i64))), (8, (.hole (.int .i64)))], bl := [], ts := [(.slice (.int .i64)), (.slice (.pair (.int .i64) (.pair (.int .i64) (.pair (.int .i64) (.pair (.int .i64) (.int .i64)))))), (.int .i64), (.int .i64)], pin := 0 }
abbrev es_plaitref14_Wrong_3 : List (ETag × Shape) := [(.ret, { sl := [(4, (.hole (.int .i64)))], bl := [], ts := [(.int .i64)], pin := 0 }), (.exit 0, { sl := [], bl := [], ts := [], pin := 0 })]
noncomputable def L_plaitref14_Wrong_3 (x : (List (Int) × List ((Int × (Int × (Int × (Int × Int))))) × Int × Int)) : Option ((List (Int) × List ((Int × (Int × (Int × (Int × Int))))) × Int × Int) ⊕ ((Int) ⊕ Unit)) :=
  bif (decide (x.2.2.2 < x.2.2.1)) then
    ((F_plaitref14_bad (x.1, (x.2.1, x.2.2.2)))).bind fun r8 =>
    bif r8 then
      some (.inr (.inl x.2.2.2))
    else
      some (.inl (x.1, (x.2.1, (x.2.2.1, (Go.IntKind.wrap Go.IntKind.i64 (x.2.2.2 + (1 : Int)))))))
  else
    some (.inr (.inr ()))
noncomputable def cx_plaitref14_Wrong_3 : Ctx := { tb := mkTb T2.tbl, fx := [(36, [], Spec.shp si_plaitref14_bad so_plaitref14_bad F_plaitref14_bad)], sum := [], nt := 17, pin := 0, nr := true, ys := [] }
theorem L_plaitref14_Wrong_3_ok : CSound Try.prog ⟨17, 0, true⟩ (.loop (loopOf 3 Try.f13)) (pieceSpec sh_plaitref14_Wrong_3 es_plaitref14_Wrong_3 (loop L_plaitref14_Wrong_3)) :=
  loop_sound (C := cx_plaitref14_Wrong_3) (ctxOK mixed tbl_ok rfl ⟨F_plaitref14_bad_ok, trivial⟩ trivial) (SumOK.of trivial) sh_plaitref14_Wrong_3 es_plaitref14_Wrong_3 rfl rfl L_plaitref14_Wrong_3 (fun x => by kernel_rfl)
abbrev si_plaitref14_Wrong : Shape := { sl := [(0, (.hole (.slice (.int .i64)))), (1, (.hole (.slice (.pair (.int .i64) (.pair (.int .i64) (.pair (.int .i64) (.pair (.int .i64) (.int .i64))))))))], bl := [], ts := [(.slice (.int .i64)), (.slice (.pair (.int .i64) (.pair (.int .i64) (.pair (.int .i64) (.pair (.int .i64) (.int .i64))))))], pin := 0 }
abbrev so_plaitref14_Wrong : Shape := { sl := [(0, (.hole (.int .i64)))], bl := [], ts := [(.int .i64)], pin := 0 }
noncomputable def F_plaitref14_Wrong (x : (List (Int) × List ((Int × (Int × (Int × (Int × Int))))))) : Option (Int) :=
  ((loop L_plaitref14_Wrong_3 (x.1, (x.2, ((((List.length x.2) : Nat) : Int), (0 : Int)))))).bind fun r7 =>
  match r7 with
  | .inl y8 =>
    some y8
  | .inr y8 =>
    some (Int.negSucc 0)
noncomputable def cx_plaitref14_Wrong : Ctx := { tb := mkTb T2.tbl, fx := [(36, [], Spec.shp si_plaitref14_bad so_plaitref14_bad F_plaitref14_bad)], sum := [(0, 3, pieceSpec sh_plaitref14_Wrong_3 es_plaitref14_Wrong_3 (loop L_plaitref14_Wrong_3))], nt := 17, pin := 0, nr := true, ys := [] }
theorem F_plaitref14_Wrong_ok : Sound Try.prog 13 (Spec.shp si_plaitref14_Wrong so_plaitref14_Wrong F_plaitref14_Wrong) :=
  Sound.shp (C := cx_plaitref14_Wrong) (fn := Try.f13) (by kernel_rfl) (c := bodyOf Try.f13) (by kernel_rfl) (by decide) (ctxOK mixed tbl_ok rfl ⟨F_plaitref14_bad_ok, trivial⟩ trivial) (SumOK.of ⟨(pieces_one (d := .loop (loopOf 3 Try.f13)) (by kernel_rfl) L_plaitref14_Wrong_3_ok), trivial⟩) (by kernel_rfl) si_plaitref14_Wrong so_plaitref14_Wrong rfl (by decide) (by decide) rfl (by decide) rfl F_plaitref14_Wrong (fun x => by kernel_rfl)
noncomputable def F_plaitlaw14_TraceTells (x : (List (Int) × List ((Int × (Int × (Int × (Int × Int))))) × Int × Int × Int)) : Option (Bool) :=
  bif (Go.Proofs.Ytkeolcgggondnaa.VX.sub3 (0 : Int) (Min.min (((List.length x.1) : Nat) : Int) (6 : Int)) (List.length x.1)) then
    ((F_plaitlaw14_few x.2.1)).bind fun r1 =>
    ((F_trace_Wrong ((Go.Proofs.Ytkeolcgggondnaa.VX.cut x.1 (Go.Proofs.Ytkeolcgggondnaa.VX.toN (0 : Int)) ((Go.Proofs.Ytkeolcgggondnaa.VX.toN (Min.min (((List.length x.1) : Nat) : Int) (6 : Int))) - (Go.Proofs.Ytkeolcgggondnaa.VX.toN (0 : Int)))), r1))).bind fun r2 =>
    ((F_trace_Last (r1, x.2.2.1))).bind fun r3 =>
    ((F_trace_Count (r1, (x.2.2.1, (x.2.2.2.1, x.2.2.2.2))))).bind fun r4 =>
    ((F_plaitref14_Caps (Go.Proofs.Ytkeolcgggondnaa.VX.cut x.1 (Go.Proofs.Ytkeolcgggondnaa.VX.toN (0 : Int)) ((Go.Proofs.Ytkeolcgggondnaa.VX.toN (Min.min (((List.length x.1) : Nat) : Int) (6 : Int))) - (Go.Proofs.Ytkeolcgggondnaa.VX.toN (0 : Int)))))).bind fun r5 =>
    bif (Bool.not r5) then
      bif (r2.2 != (1 : Int)) then
        some false
      else
        bif (r2.1 != (0 : Int)) then
          some false
        else
          bif (decide (x.2.2.1 < (0 : Int))) then
            ((F_plaitlaw14_alive ())).bind fun r6 =>
            bif r6 then
              bif (r3.2 == (3 : Int)) then
                bif (r4.2 == (3 : Int)) then
                  bif (r3.1 == (0 : Int)) then
                    some (r4.1 == (0 : Int))
                  else
                    some false
                else
                  some false
              else
                some false
            else
              some false
          else
            bif (decide (x.2.2.1 ≥ (((List.length r1) : Nat) : Int))) then
              ((F_plaitlaw14_alive ())).bind fun r6 =>
              bif r6 then
                bif (r3.2 == (3 : Int)) then
                  bif (r4.2 == (3 : Int)) then
                    bif (r3.1 == (0 : Int)) then
                      some (r4.1 == (0 : Int))
                    else
                      some false
                  else
                    some false
                else
                  some false
              else
                some false
            else
              ((F_plaitlaw14_alive ())).bind fun r6 =>
              bif r6 then
                bif (r3.2 == (0 : Int)) then
                  bif (r4.2 == (0 : Int)) then
                    ((F_plaitref14_Last (r1, x.2.2.1))).bind fun r7 =>
                    bif (r3.1 == r7) then
                      ((F_plaitref14_Count (r1, (x.2.2.1, (x.2.2.2.1, x.2.2.2.2))))).bind fun r8 =>
                      some (r4.1 == r8)
                    else
                      some false
                  else
                    some false
                else
                  some false
              else
                some false
    else
      bif (r2.2 != (0 : Int)) then
        some false
      else
        ((F_plaitref14_Wrong ((Go.Proofs.Ytkeolcgggondnaa.VX.cut x.1 (Go.Proofs.Ytkeolcgggondnaa.VX.toN (0 : Int)) ((Go.Proofs.Ytkeolcgggondnaa.VX.toN (Min.min (((List.length x.1) : Nat) : Int) (6 : Int))) - (Go.Proofs.Ytkeolcgggondnaa.VX.toN (0 : Int)))), r1))).bind fun r6 =>
        bif (r2.1 != r6) then
          some false
        else
          bif (decide (x.2.2.1 < (0 : Int))) then
            ((F_plaitlaw14_alive ())).bind fun r7 =>
            bif r7 then
              bif (r3.2 == (3 : Int)) then
                bif (r4.2 == (3 : Int)) then
                  bif (r3.1 == (0 : Int)) then
                    some (r4.1 == (0 : Int))
                  else
                    some false
                else
                  some false
              else
                some false
            else
              some false
          else
            bif (decide (x.2.2.1 ≥ (((List.length r1) : Nat) : Int))) then
              ((F_plaitlaw14_alive ())).bind fun r7 =>
              bif r7 then
                bif (r3.2 == (3 : Int)) then
                  bif (r4.2 == (3 : Int)) then
                    bif (r3.1 == (0 : Int)) then
                      some (r4.1 == (0 : Int))
                    else
                      some false
                  else
                    some false
                else
                  some false
              else
                some false
            else
              ((F_plaitlaw14_alive ())).bind fun r7 =>
              bif r7 then
                bif (r3.2 == (0 : Int)) then
                  bif (r4.2 == (0 : Int)) then
                    ((F_plaitref14_Last (r1, x.2.2.1))).bind fun r8 =>
                    bif (r3.1 == r8) then
                      ((F_plaitref14_Count (r1, (x.2.2.1, (x.2.2.2.1, x.2.2.2.2))))).bind fun r9 =>
                      some (r4.1 == r9)
                    else
                      some false
                  else
                    some false
                else
                  some false
              else
                some false
  else
    none
noncomputable def cx_plaitlaw14_TraceTells : Ctx := { tb := mkTb T2.tbl, fx := [(7, [], Spec.shp si_plaitlaw14_few so_plaitlaw14_few F_plaitlaw14_few), (8, [], Spec.shp si_trace_Wrong so_trace_Wrong F_trace_Wrong), (10, [], Spec.shp si_trace_Last so_trace_Last F_trace_Last), (11, [], Spec.shp si_trace_Count so_trace_Count F_trace_Count), (12, [], Spec.shp si_plaitref14_Caps so_plaitref14_Caps F_plaitref14_Caps), (9, [], Spec.shp si_plaitlaw14_alive so_plaitlaw14_alive F_plaitlaw14_alive), (14, [], Spec.shp si_plaitref14_Last so_plaitref14_Last F_plaitref14_Last), (15, [], Spec.shp si_plaitref14_Count so_plaitref14_Count F_plaitref14_Count), (13, [], Spec.shp si_plaitref14_Wrong so_plaitref14_Wrong F_plaitref14_Wrong)], sum := [], nt := 112, pin := 0, nr := true, ys := [], rw := [(1, [0])] }
theorem F_plaitlaw14_TraceTells_ok : Sound Try.prog 4 (Spec.pure [(.slice (.int .i64)), (.slice (.pair (.int .i64) (.pair (.int .i64) (.pair (.int .i64) (.pair (.int .i64) (.int .i64)))))), (.int .i64), (.int .i64), (.int .i64)] [.bool] F_plaitlaw14_TraceTells) :=
  Sound.pure (C := cx_plaitlaw14_TraceTells) (fn := Try.f4) (by kernel_rfl) (c := bodyOf Try.f4) (by kernel_rfl) (by decide) (ctxOK mixed tbl_ok rfl ⟨F_plaitlaw14_few_ok, F_trace_Wrong_ok, F_trace_Last_ok, F_trace_Count_ok, F_plaitref14_Caps_ok, F_plaitlaw14_alive_ok, F_plaitref14_Last_ok, F_plaitref14_Count_ok, F_plaitref14_Wrong_ok, trivial⟩) (SumOK.of trivial) (by kernel_rfl) rfl _ _ (by decide) _ (fun x => by kernel_rfl)


end Go.Proofs.Ytkeolcgggondnaa.VX.VxF_T
