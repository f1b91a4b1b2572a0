import Derived.Test.YtegbkaaibgdheaaVxBOa
set_option linter.unusedVariables false
set_option maxRecDepth 100000
namespace Go.Proofs.Ytegbkaaibgdheaa.VX.VxB_O
open Go.Proofs Go.Proofs.Ytegbkaaibgdheaa.VX.T2
abbrev sh_plaitlaw05_WaitsOrder_20v2 : Shape := { sl := [(3, (.hole (.slice (.pair (.int .i64) (.pair (.int .i64) (.int .i64)))))), (4, (.sl 0)), (19, (.hole (.slice (.pair (.int .i64) (.pair (.int .i64) (.int .i64)))))), (20, (.hole (.int .i64))), (21, (.hole (.int .i64))), (90, (.hole (.int .i64)))], bl := [.row (.pair (.int .i64) (.pair (.int .i64) (.int .i64)))], ts := [(.slice (.pair (.int .i64) (.pair (.int .i64) (.int .i64)))), (.slice (.pair (.int .i64) (.pair (.int .i64) (.int .i64)))), (.int .i64), (.int .i64), (.int .i64), (.slice (.pair (.int .i64) (.pair (.int .i64) (.int .i64))))], pin := 0 }
abbrev es_plaitlaw05_WaitsOrder_20v2 : List (ETag × Shape) := [(.ret, { sl := [(2, (.hole .bool))], bl := [], ts := [.bool], pin := 0 }), (.exit 2, { sl := [(3, (.hole (.slice (.pair (.int .i64) (.pair (.int .i64) (.int .i64)))))), (4, (.sl 0)), (19, (.hole (.slice (.pair (.int .i64) (.pair (.int .i64) (.int .i64)))))), (20, (.hole (.int .i64))), (21, (.hole (.int .i64)))], bl := [.row (.pair (.int .i64) (.pair (.int .i64) (.int .i64)))], ts := [(.slice (.pair (.int .i64) (.pair (.int .i64) (.int .i64)))), (.slice (.pair (.int .i64) (.pair (.int .i64) (.int .i64)))), (.int .i64), (.int .i64), (.slice (.pair (.int .i64) (.pair (.int .i64) (.int .i64))))], pin := 0 })]
noncomputable def L_plaitlaw05_WaitsOrder_20v2 (x : (List ((Int × (Int × Int))) × List ((Int × (Int × Int))) × Int × Int × Int × List ((Int × (Int × Int))))) : Option ((List ((Int × (Int × Int))) × List ((Int × (Int × Int))) × Int × Int × Int × List ((Int × (Int × Int)))) ⊕ ((Bool) ⊕ (List ((Int × (Int × Int))) × List ((Int × (Int × Int))) × Int × Int × List ((Int × (Int × Int)))))) :=
  bif (decide (x.2.2.2.2.1 < (6 : Int))) then
    ((F_waits_First (x.1, x.2.2.2.2.1))).bind fun r6 =>
    ((F_plaitref05_Drop_lent (x.2.2.2.2.1, x.2.2.2.2.2))).bind fun r7 =>
    bif (Bool.not (Go.Proofs.Ytegbkaaibgdheaa.VX.Ty.beq Go.Proofs.Ytegbkaaibgdheaa.VX.Ty.bool (r6.2 == (4 : Int)) ((((List.length r7.2) : Nat) : Int) == (0 : Int)))) then
      some (.inr (.inl false))
    else
      bif (r6.2 == (0 : Int)) then
        bif (Go.Proofs.Ytegbkaaibgdheaa.VX.inb (0 : Int) (List.length r7.2)) then
          bif (Bool.not (Go.Proofs.Ytegbkaaibgdheaa.VX.Ty.beq (@Go.Proofs.Ytegbkaaibgdheaa.VX.Ty.pair (@Go.Proofs.Ytegbkaaibgdheaa.VX.Ty.int Go.IntKind.i64) (@Go.Proofs.Ytegbkaaibgdheaa.VX.Ty.pair (@Go.Proofs.Ytegbkaaibgdheaa.VX.Ty.int Go.IntKind.i64) (@Go.Proofs.Ytegbkaaibgdheaa.VX.Ty.int Go.IntKind.i64))) r6.1 (Go.Proofs.Ytegbkaaibgdheaa.VX.getAt ((0 : Int), ((0 : Int), (0 : Int))) r7.2 (Go.Proofs.Ytegbkaaibgdheaa.VX.toN (0 : Int))))) then
            some (.inr (.inl false))
          else
            some (.inl (x.1, (x.2.1, (x.2.2.1, (x.2.2.2.1, ((Go.IntKind.wrap Go.IntKind.i64 (x.2.2.2.2.1 + (1 : Int))), r7.1))))))
        else
          none
      else
        some (.inl (x.1, (x.2.1, (x.2.2.1, (x.2.2.2.1, ((Go.IntKind.wrap Go.IntKind.i64 (x.2.2.2.2.1 + (1 : Int))), r7.1))))))
  else
    some (.inr (.inr (x.1, (x.2.1, (x.2.2.1, (x.2.2.2.1, x.2.2.2.2.2))))))
noncomputable def cx_plaitlaw05_WaitsOrder_20v2 : Ctx := { tb := mkTb T2.tbl, fx := [(23, [], Spec.shp si_waits_Drop so_waits_Drop F_waits_Drop), (24, [], Spec.shp si_plaitref05_Drop so_plaitref05_Drop F_plaitref05_Drop), (27, [2000000], Spec.shp si_plaitref05_Same_lent1 so_plaitref05_Same_lent1 F_plaitref05_Same_lent1), (28, [], Spec.shp si_waits_First so_waits_First F_waits_First), (24, [2000000], Spec.shp si_plaitref05_Drop_lent so_plaitref05_Drop_lent F_plaitref05_Drop_lent), (25, [], Spec.shp si_waits_Push so_waits_Push F_waits_Push), (26, [], Spec.shp si_plaitref05_Has so_plaitref05_Has F_plaitref05_Has), (27, [], Spec.shp si_plaitref05_Same so_plaitref05_Same F_plaitref05_Same)], sum := [], nt := 122, pin := 0, nr := true, ys := [] }
theorem L_plaitlaw05_WaitsOrder_20v2_ok : CSound Try.prog ⟨122, 0, true⟩ (.loop (loopOf 20 Try.f5)) (pieceSpec sh_plaitlaw05_WaitsOrder_20v2 es_plaitlaw05_WaitsOrder_20v2 (loop L_plaitlaw05_WaitsOrder_20v2)) :=
  loop_sound (C := cx_plaitlaw05_WaitsOrder_20v2) (ctxOK mixed tbl_ok rfl ⟨F_waits_Drop_ok, F_plaitref05_Drop_ok, F_plaitref05_Same_lent1_ok, F_waits_First_ok, F_plaitref05_Drop_lent_ok, F_waits_Push_ok, F_plaitref05_Has_ok, F_plaitref05_Same_ok, trivial⟩ trivial) (SumOK.of trivial) sh_plaitlaw05_WaitsOrder_20v2 es_plaitlaw05_WaitsOrder_20v2 rfl rfl L_plaitlaw05_WaitsOrder_20v2 (fun x => by kernel_rfl)
abbrev sh_plaitref05_Has_lent_3 : Shape := { sl := [(1, (.hole (.int .i64))), (2, (.hole (.int .i64))), (9, (.sl 0)), (10, (.hole (.int .i64))), (11, (.hole (.int .i64)))], bl := [.row (.pair (.int .i64) (.pair (.int .i64) (.int .i64)))], ts := [(.int .i64), (.int .i64), (.int .i64), (.int .i64), (.slice (.pair (.int .i64) (.pair (.int .i64) (.int .i64))))], pin := 1 }
abbrev es_plaitref05_Has_lent_3 : List (ETag × Shape) := [(.ret, { sl := [(6, (.hole .bool))], bl := [.row (.pair (.int .i64) (.pair (.int .i64) (.int .i64)))], ts := [.bool, (.slice (.pair (.int .i64) (.pair (.int .i64) (.int .i64))))], pin := 1 }), (.exit 0, { sl := [], bl := [.row (.pair (.int .i64) (.pair (.int .i64) (.int .i64)))], ts := [(.slice (.pair (.int .i64) (.pair (.int .i64) (.int .i64))))], pin := 1 })]
noncomputable def L_plaitref05_Has_lent_3 (x : (Int × Int × Int × Int × List ((Int × (Int × Int))))) : Option ((Int × Int × Int × Int × List ((Int × (Int × Int)))) ⊕ ((Bool × List ((Int × (Int × Int)))) ⊕ (List ((Int × (Int × Int)))))) :=
  bif (decide (x.2.2.2.1 < x.2.2.1)) then
    bif (Go.Proofs.Ytegbkaaibgdheaa.VX.inb x.2.2.2.1 (List.length x.2.2.2.2)) then
      bif ((Go.Proofs.Ytegbkaaibgdheaa.VX.getAt ((0 : Int), ((0 : Int), (0 : Int))) x.2.2.2.2 (Go.Proofs.Ytegbkaaibgdheaa.VX.toN x.2.2.2.1)).1 == x.1) then
        bif ((Go.Proofs.Ytegbkaaibgdheaa.VX.getAt ((0 : Int), ((0 : Int), (0 : Int))) x.2.2.2.2 (Go.Proofs.Ytegbkaaibgdheaa.VX.toN x.2.2.2.1)).2.1 == x.2.1) then
          some (.inr (.inl (true, x.2.2.2.2)))
        else
          some (.inl (x.1, (x.2.1, (x.2.2.1, ((Go.IntKind.wrap Go.IntKind.i64 (x.2.2.2.1 + (1 : Int))), x.2.2.2.2)))))
      else
        some (.inl (x.1, (x.2.1, (x.2.2.1, ((Go.IntKind.wrap Go.IntKind.i64 (x.2.2.2.1 + (1 : Int))), x.2.2.2.2)))))
    else
      none
  else
    some (.inr (.inr x.2.2.2.2))
noncomputable def cx_plaitref05_Has_lent_3 : Ctx := { tb := mkTb T2.tbl, fx := [], sum := [], nt := 26, pin := 1, nr := true, ys := [] }
theorem L_plaitref05_Has_lent_3_ok : CSound Try.prog ⟨26, 1, true⟩ (.loop (loopOf 3 Try.f26)) (pieceSpec sh_plaitref05_Has_lent_3 es_plaitref05_Has_lent_3 (loop L_plaitref05_Has_lent_3)) :=
  loop_sound (C := cx_plaitref05_Has_lent_3) (ctxOK mixed tbl_ok rfl trivial trivial) (SumOK.of trivial) sh_plaitref05_Has_lent_3 es_plaitref05_Has_lent_3 rfl rfl L_plaitref05_Has_lent_3 (fun x => by kernel_rfl)
abbrev si_plaitref05_Has_lent : Shape := { sl := [(0, (.sl 0)), (1, (.hole (.int .i64))), (2, (.hole (.int .i64)))], bl := [.row (.pair (.int .i64) (.pair (.int .i64) (.int .i64)))], ts := [(.int .i64), (.int .i64), (.slice (.pair (.int .i64) (.pair (.int .i64) (.int .i64))))], pin := 0 }
abbrev so_plaitref05_Has_lent : Shape := { sl := [(0, (.hole .bool))], bl := [.row (.pair (.int .i64) (.pair (.int .i64) (.int .i64)))], ts := [.bool, (.slice (.pair (.int .i64) (.pair (.int .i64) (.int .i64))))], pin := 1 }
noncomputable def F_plaitref05_Has_lent (x : (Int × Int × List ((Int × (Int × Int))))) : Option (Bool × List ((Int × (Int × Int)))) :=
  ((loop L_plaitref05_Has_lent_3 (x.1, (x.2.1, ((((List.length x.2.2) : Nat) : Int), ((0 : Int), x.2.2)))))).bind fun r4 =>
  match r4 with
  | .inl y5 =>
    some (y5.1, y5.2)
  | .inr y5 =>
    some (false, y5)
noncomputable def cx_plaitref05_Has_lent : Ctx := { tb := mkTb T2.tbl, fx := [], sum := [(0, 3, pieceSpec sh_plaitref05_Has_lent_3 es_plaitref05_Has_lent_3 (loop L_plaitref05_Has_lent_3))], nt := 26, pin := 1, nr := true, ys := [] }
theorem F_plaitref05_Has_lent_ok : Sound Try.prog 26 (Spec.shp si_plaitref05_Has_lent so_plaitref05_Has_lent F_plaitref05_Has_lent) :=
  Sound.shp (C := cx_plaitref05_Has_lent) (fn := Try.f26) (by kernel_rfl) (c := bodyOf Try.f26) (by kernel_rfl) (by decide) (ctxOK mixed tbl_ok rfl trivial trivial) (SumOK.of ⟨(pieces_one (d := .loop (loopOf 3 Try.f26)) (by kernel_rfl) L_plaitref05_Has_lent_3_ok), trivial⟩) (by kernel_rfl) si_plaitref05_Has_lent so_plaitref05_Has_lent rfl (by decide) (by decide) rfl (by decide) rfl F_plaitref05_Has_lent (fun x => by kernel_rfl)
abbrev sh_plaitlaw05_WaitsOrder_4 : Shape := { sl := [(3, (.hole (.slice (.pair (.int .i64) (.pair (.int .i64) (.int .i64)))))), (4, (.sl 0)), (19, (.hole (.slice (.pair (.int .i64) (.pair (.int .i64) (.int .i64)))))), (20, (.hole (.int .i64))), (21, (.hole (.int .i64)))], bl := [.row (.pair (.int .i64) (.pair (.int .i64) (.int .i64)))], ts := [(.slice (.pair (.int .i64) (.pair (.int .i64) (.int .i64)))), (.slice (.pair (.int .i64) (.pair (.int .i64) (.int .i64)))), (.int .i64), (.int .i64), (.slice (.pair (.int .i64) (.pair (.int .i64) (.int .i64))))], pin := 0 }
abbrev es_plaitlaw05_WaitsOrder_4 : List (ETag × Shape) := [(.ret, { sl := [(2, (.hole .bool))], bl := [], ts := [.bool], pin := 0 }), (.exit 0, { sl := [], bl := [], ts := [], pin := 0 })]
noncomputable def L_plaitlaw05_WaitsOrder_4 (x : (List ((Int × (Int × Int))) × List ((Int × (Int × Int))) × Int × Int × List ((Int × (Int × Int))))) : Option ((List ((Int × (Int × Int))) × List ((Int × (Int × Int))) × Int × Int × List ((Int × (Int × Int)))) ⊕ ((Bool) ⊕ Unit)) :=
  bif (decide (x.2.2.2.1 < x.2.2.1)) then
    bif (Go.Proofs.Ytegbkaaibgdheaa.VX.inb x.2.2.2.1 (List.length x.2.1)) then
      bif (decide ((Int.tmod (Go.Proofs.Ytegbkaaibgdheaa.VX.getAt ((0 : Int), ((0 : Int), (0 : Int))) x.2.1 (Go.Proofs.Ytegbkaaibgdheaa.VX.toN x.2.2.2.1)).2.1 (4 : Int)) < (0 : Int))) then
        ((F_waits_Drop (x.1, (Int.tmod (Go.IntKind.wrap Go.IntKind.i64 ((Int.tmod (Go.Proofs.Ytegbkaaibgdheaa.VX.getAt ((0 : Int), ((0 : Int), (0 : Int))) x.2.1 (Go.Proofs.Ytegbkaaibgdheaa.VX.toN x.2.2.2.1)).1 (5 : Int)) + (5 : Int))) (5 : Int))))).bind fun r2 =>
        bif (r2.2 != (0 : Int)) then
          some (.inr (.inl false))
        else
          ((F_plaitref05_Drop_lent ((Int.tmod (Go.IntKind.wrap Go.IntKind.i64 ((Int.tmod (Go.Proofs.Ytegbkaaibgdheaa.VX.getAt ((0 : Int), ((0 : Int), (0 : Int))) x.2.1 (Go.Proofs.Ytegbkaaibgdheaa.VX.toN x.2.2.2.1)).1 (5 : Int)) + (5 : Int))) (5 : Int)), x.2.2.2.2))).bind fun r3 =>
          ((F_plaitref05_Same_lent1 (r2.1, r3.2))).bind fun r4 =>
          bif (Bool.not r4.1) then
            some (.inr (.inl false))
          else
            ((loop L_plaitlaw05_WaitsOrder_20v2 (r2.1, (x.2.1, (x.2.2.1, (x.2.2.2.1, ((0 : Int), r4.2))))))).bind fun r5 =>
            match r5 with
            | .inl y6 =>
              some (.inr (.inl y6))
            | .inr y6 =>
              some (.inl (y6.1, (y6.2.1, (y6.2.2.1, ((Go.IntKind.wrap Go.IntKind.i64 (y6.2.2.2.1 + (1 : Int))), y6.2.2.2.2)))))
      else
        ((F_waits_Push (x.1, ((Int.tmod (Go.IntKind.wrap Go.IntKind.i64 ((Int.tmod (Go.Proofs.Ytegbkaaibgdheaa.VX.getAt ((0 : Int), ((0 : Int), (0 : Int))) x.2.1 (Go.Proofs.Ytegbkaaibgdheaa.VX.toN x.2.2.2.1)).1 (5 : Int)) + (5 : Int))) (5 : Int)), ((Int.tmod (Go.Proofs.Ytegbkaaibgdheaa.VX.getAt ((0 : Int), ((0 : Int), (0 : Int))) x.2.1 (Go.Proofs.Ytegbkaaibgdheaa.VX.toN x.2.2.2.1)).2.1 (4 : Int)), (Int.tmod (Go.IntKind.wrap Go.IntKind.i64 ((Int.tmod (Go.Proofs.Ytegbkaaibgdheaa.VX.getAt ((0 : Int), ((0 : Int), (0 : Int))) x.2.1 (Go.Proofs.Ytegbkaaibgdheaa.VX.toN x.2.2.2.1)).2.2 (9 : Int)) + (9 : Int))) (9 : Int))))))).bind fun r2 =>
        ((F_plaitref05_Has_lent ((Int.tmod (Go.IntKind.wrap Go.IntKind.i64 ((Int.tmod (Go.Proofs.Ytegbkaaibgdheaa.VX.getAt ((0 : Int), ((0 : Int), (0 : Int))) x.2.1 (Go.Proofs.Ytegbkaaibgdheaa.VX.toN x.2.2.2.1)).1 (5 : Int)) + (5 : Int))) (5 : Int)), ((Int.tmod (Go.Proofs.Ytegbkaaibgdheaa.VX.getAt ((0 : Int), ((0 : Int), (0 : Int))) x.2.1 (Go.Proofs.Ytegbkaaibgdheaa.VX.toN x.2.2.2.1)).2.1 (4 : Int)), x.2.2.2.2)))).bind fun r3 =>
        bif (Bool.not (Go.Proofs.Ytegbkaaibgdheaa.VX.Ty.beq Go.Proofs.Ytegbkaaibgdheaa.VX.Ty.bool (r2.2 == (7 : Int)) r3.1)) then
          some (.inr (.inl false))
        else
          bif (r2.2 != (0 : Int)) then
            bif (r2.2 != (7 : Int)) then
              some (.inr (.inl false))
            else
              bif (r2.2 == (0 : Int)) then
                bif (Go.Proofs.Ytegbkaaibgdheaa.VX.fits ((List.length r3.2) + (List.length (((Int.tmod (Go.IntKind.wrap Go.IntKind.i64 ((Int.tmod (Go.Proofs.Ytegbkaaibgdheaa.VX.getAt ((0 : Int), ((0 : Int), (0 : Int))) x.2.1 (Go.Proofs.Ytegbkaaibgdheaa.VX.toN x.2.2.2.1)).1 (5 : Int)) + (5 : Int))) (5 : Int)), ((Int.tmod (Go.Proofs.Ytegbkaaibgdheaa.VX.getAt ((0 : Int), ((0 : Int), (0 : Int))) x.2.1 (Go.Proofs.Ytegbkaaibgdheaa.VX.toN x.2.2.2.1)).2.1 (4 : Int)), (Int.tmod (Go.IntKind.wrap Go.IntKind.i64 ((Int.tmod (Go.Proofs.Ytegbkaaibgdheaa.VX.getAt ((0 : Int), ((0 : Int), (0 : Int))) x.2.1 (Go.Proofs.Ytegbkaaibgdheaa.VX.toN x.2.2.2.1)).2.2 (9 : Int)) + (9 : Int))) (9 : Int)))) :: ([] : List (Int × (Int × Int))))))) then
                  ((F_plaitref05_Same_lent1 (r2.1, (r3.2 ++ (((Int.tmod (Go.IntKind.wrap Go.IntKind.i64 ((Int.tmod (Go.Proofs.Ytegbkaaibgdheaa.VX.getAt ((0 : Int), ((0 : Int), (0 : Int))) x.2.1 (Go.Proofs.Ytegbkaaibgdheaa.VX.toN x.2.2.2.1)).1 (5 : Int)) + (5 : Int))) (5 : Int)), ((Int.tmod (Go.Proofs.Ytegbkaaibgdheaa.VX.getAt ((0 : Int), ((0 : Int), (0 : Int))) x.2.1 (Go.Proofs.Ytegbkaaibgdheaa.VX.toN x.2.2.2.1)).2.1 (4 : Int)), (Int.tmod (Go.IntKind.wrap Go.IntKind.i64 ((Int.tmod (Go.Proofs.Ytegbkaaibgdheaa.VX.getAt ((0 : Int), ((0 : Int), (0 : Int))) x.2.1 (Go.Proofs.Ytegbkaaibgdheaa.VX.toN x.2.2.2.1)).2.2 (9 : Int)) + (9 : Int))) (9 : Int)))) :: ([] : List (Int × (Int × Int)))))))).bind fun r4 =>
                  bif (Bool.not r4.1) then
                    some (.inr (.inl false))
                  else
                    ((loop L_plaitlaw05_WaitsOrder_20v2 (r2.1, (x.2.1, (x.2.2.1, (x.2.2.2.1, ((0 : Int), r4.2))))))).bind fun r5 =>
                    match r5 with
                    | .inl y6 =>
                      some (.inr (.inl y6))
                    | .inr y6 =>
                      some (.inl (y6.1, (y6.2.1, (y6.2.2.1, ((Go.IntKind.wrap Go.IntKind.i64 (y6.2.2.2.1 + (1 : Int))), y6.2.2.2.2)))))
                else
                  none
              else
                ((F_plaitref05_Same_lent1 (x.1, r3.2))).bind fun r4 =>
                bif (Bool.not r4.1) then
                  some (.inr (.inl false))
                else
                  ((loop L_plaitlaw05_WaitsOrder_20v2 (x.1, (x.2.1, (x.2.2.1, (x.2.2.2.1, ((0 : Int), r4.2))))))).bind fun r5 =>
                  match r5 with
                  | .inl y6 =>
                    some (.inr (.inl y6))
                  | .inr y6 =>
                    some (.inl (y6.1, (y6.2.1, (y6.2.2.1, ((Go.IntKind.wrap Go.IntKind.i64 (y6.2.2.2.1 + (1 : Int))), y6.2.2.2.2)))))
          else
            bif (r2.2 == (0 : Int)) then
              bif (Go.Proofs.Ytegbkaaibgdheaa.VX.fits ((List.length r3.2) + (List.length (((Int.tmod (Go.IntKind.wrap Go.IntKind.i64 ((Int.tmod (Go.Proofs.Ytegbkaaibgdheaa.VX.getAt ((0 : Int), ((0 : Int), (0 : Int))) x.2.1 (Go.Proofs.Ytegbkaaibgdheaa.VX.toN x.2.2.2.1)).1 (5 : Int)) + (5 : Int))) (5 : Int)), ((Int.tmod (Go.Proofs.Ytegbkaaibgdheaa.VX.getAt ((0 : Int), ((0 : Int), (0 : Int))) x.2.1 (Go.Proofs.Ytegbkaaibgdheaa.VX.toN x.2.2.2.1)).2.1 (4 : Int)), (Int.tmod (Go.IntKind.wrap Go.IntKind.i64 ((Int.tmod (Go.Proofs.Ytegbkaaibgdheaa.VX.getAt ((0 : Int), ((0 : Int), (0 : Int))) x.2.1 (Go.Proofs.Ytegbkaaibgdheaa.VX.toN x.2.2.2.1)).2.2 (9 : Int)) + (9 : Int))) (9 : Int)))) :: ([] : List (Int × (Int × Int))))))) then
                ((F_plaitref05_Same_lent1 (r2.1, (r3.2 ++ (((Int.tmod (Go.IntKind.wrap Go.IntKind.i64 ((Int.tmod (Go.Proofs.Ytegbkaaibgdheaa.VX.getAt ((0 : Int), ((0 : Int), (0 : Int))) x.2.1 (Go.Proofs.Ytegbkaaibgdheaa.VX.toN x.2.2.2.1)).1 (5 : Int)) + (5 : Int))) (5 : Int)), ((Int.tmod (Go.Proofs.Ytegbkaaibgdheaa.VX.getAt ((0 : Int), ((0 : Int), (0 : Int))) x.2.1 (Go.Proofs.Ytegbkaaibgdheaa.VX.toN x.2.2.2.1)).2.1 (4 : Int)), (Int.tmod (Go.IntKind.wrap Go.IntKind.i64 ((Int.tmod (Go.Proofs.Ytegbkaaibgdheaa.VX.getAt ((0 : Int), ((0 : Int), (0 : Int))) x.2.1 (Go.Proofs.Ytegbkaaibgdheaa.VX.toN x.2.2.2.1)).2.2 (9 : Int)) + (9 : Int))) (9 : Int)))) :: ([] : List (Int × (Int × Int)))))))).bind fun r4 =>
                bif (Bool.not r4.1) then
                  some (.inr (.inl false))
                else
                  ((loop L_plaitlaw05_WaitsOrder_20v2 (r2.1, (x.2.1, (x.2.2.1, (x.2.2.2.1, ((0 : Int), r4.2))))))).bind fun r5 =>
                  match r5 with
                  | .inl y6 =>
                    some (.inr (.inl y6))
                  | .inr y6 =>
                    some (.inl (y6.1, (y6.2.1, (y6.2.2.1, ((Go.IntKind.wrap Go.IntKind.i64 (y6.2.2.2.1 + (1 : Int))), y6.2.2.2.2)))))
              else
                none
            else
              ((F_plaitref05_Same_lent1 (x.1, r3.2))).bind fun r4 =>
              bif (Bool.not r4.1) then
                some (.inr (.inl false))
              else
                ((loop L_plaitlaw05_WaitsOrder_20v2 (x.1, (x.2.1, (x.2.2.1, (x.2.2.2.1, ((0 : Int), r4.2))))))).bind fun r5 =>
                match r5 with
                | .inl y6 =>
                  some (.inr (.inl y6))
                | .inr y6 =>
                  some (.inl (y6.1, (y6.2.1, (y6.2.2.1, ((Go.IntKind.wrap Go.IntKind.i64 (y6.2.2.2.1 + (1 : Int))), y6.2.2.2.2)))))
    else
      none
  else
    some (.inr (.inr ()))
noncomputable def cx_plaitlaw05_WaitsOrder_4 : Ctx := { tb := mkTb T2.tbl, fx := [(23, [], Spec.shp si_waits_Drop so_waits_Drop F_waits_Drop), (24, [], Spec.shp si_plaitref05_Drop so_plaitref05_Drop F_plaitref05_Drop), (27, [2000000], Spec.shp si_plaitref05_Same_lent1 so_plaitref05_Same_lent1 F_plaitref05_Same_lent1), (28, [], Spec.shp si_waits_First so_waits_First F_waits_First), (24, [2000000], Spec.shp si_plaitref05_Drop_lent so_plaitref05_Drop_lent F_plaitref05_Drop_lent), (25, [], Spec.shp si_waits_Push so_waits_Push F_waits_Push), (26, [], Spec.shp si_plaitref05_Has so_plaitref05_Has F_plaitref05_Has), (27, [], Spec.shp si_plaitref05_Same so_plaitref05_Same F_plaitref05_Same), (26, [2000000], Spec.shp si_plaitref05_Has_lent so_plaitref05_Has_lent F_plaitref05_Has_lent)], sum := [(0, 20, pieceSpec sh_plaitlaw05_WaitsOrder_20v2 es_plaitlaw05_WaitsOrder_20v2 (loop L_plaitlaw05_WaitsOrder_20v2))], nt := 122, pin := 0, nr := true, ys := [] }
theorem L_plaitlaw05_WaitsOrder_4_ok : CSound Try.prog ⟨122, 0, true⟩ (.loop (loopOf 4 Try.f5)) (pieceSpec sh_plaitlaw05_WaitsOrder_4 es_plaitlaw05_WaitsOrder_4 (loop L_plaitlaw05_WaitsOrder_4)) :=
  loop_sound (C := cx_plaitlaw05_WaitsOrder_4) (ctxOK mixed tbl_ok rfl ⟨F_waits_Drop_ok, F_plaitref05_Drop_ok, F_plaitref05_Same_lent1_ok, F_waits_First_ok, F_plaitref05_Drop_lent_ok, F_waits_Push_ok, F_plaitref05_Has_ok, F_plaitref05_Same_ok, F_plaitref05_Has_lent_ok, trivial⟩ trivial) (SumOK.of ⟨(pieces_one (d := .loop (loopOf 20 Try.f5)) (by kernel_rfl) L_plaitlaw05_WaitsOrder_20v2_ok), trivial⟩) sh_plaitlaw05_WaitsOrder_4 es_plaitlaw05_WaitsOrder_4 rfl rfl L_plaitlaw05_WaitsOrder_4 (fun x => by kernel_rfl)
noncomputable def F_plaitlaw05_WaitsOrder (x : (List ((Int × (Int × Int))))) : Option (Bool) :=
  bif (Go.Proofs.Ytegbkaaibgdheaa.VX.sub3 (0 : Int) (Min.min (((List.length x) : Nat) : Int) (100 : Int)) (List.length x)) then
    ((loop L_plaitlaw05_WaitsOrder_4 (([] : List (Int × (Int × Int))), ((Go.Proofs.Ytegbkaaibgdheaa.VX.cut x (Go.Proofs.Ytegbkaaibgdheaa.VX.toN (0 : Int)) ((Go.Proofs.Ytegbkaaibgdheaa.VX.toN (Min.min (((List.length x) : Nat) : Int) (100 : Int))) - (Go.Proofs.Ytegbkaaibgdheaa.VX.toN (0 : Int)))), ((((List.length (Go.Proofs.Ytegbkaaibgdheaa.VX.cut x (Go.Proofs.Ytegbkaaibgdheaa.VX.toN (0 : Int)) ((Go.Proofs.Ytegbkaaibgdheaa.VX.toN (Min.min (((List.length x) : Nat) : Int) (100 : Int))) - (Go.Proofs.Ytegbkaaibgdheaa.VX.toN (0 : Int))))) : Nat) : Int), ((0 : Int), ([] : List (Int × (Int × Int))))))))).bind fun r1 =>
    match r1 with
    | .inl y2 =>
      some y2
    | .inr y2 =>
      ((F_plaitlaw05_alive ())).bind fun r3 =>
      some r3
  else
    none
noncomputable def cx_plaitlaw05_WaitsOrder : Ctx := { tb := mkTb T2.tbl, fx := [(23, [], Spec.shp si_waits_Drop so_waits_Drop F_waits_Drop), (24, [], Spec.shp si_plaitref05_Drop so_plaitref05_Drop F_plaitref05_Drop), (27, [2000000], Spec.shp si_plaitref05_Same_lent1 so_plaitref05_Same_lent1 F_plaitref05_Same_lent1), (28, [], Spec.shp si_waits_First so_waits_First F_waits_First), (24, [2000000], Spec.shp si_plaitref05_Drop_lent so_plaitref05_Drop_lent F_plaitref05_Drop_lent), (25, [], Spec.shp si_waits_Push so_waits_Push F_waits_Push), (26, [], Spec.shp si_plaitref05_Has so_plaitref05_Has F_plaitref05_Has), (27, [], Spec.shp si_plaitref05_Same so_plaitref05_Same F_plaitref05_Same), (26, [2000000], Spec.shp si_plaitref05_Has_lent so_plaitref05_Has_lent F_plaitref05_Has_lent), (29, [], Spec.shp si_plaitlaw05_alive so_plaitlaw05_alive F_plaitlaw05_alive)], sum := [(0, 20, pieceSpec sh_plaitlaw05_WaitsOrder_20v2 es_plaitlaw05_WaitsOrder_20v2 (loop L_plaitlaw05_WaitsOrder_20v2)), (0, 4, pieceSpec sh_plaitlaw05_WaitsOrder_4 es_plaitlaw05_WaitsOrder_4 (loop L_plaitlaw05_WaitsOrder_4))], nt := 122, pin := 0, nr := true, ys := [] }
theorem F_plaitlaw05_WaitsOrder_ok : Sound Try.prog 5 (Spec.pure [(.slice (.pair (.int .i64) (.pair (.int .i64) (.int .i64))))] [.bool] F_plaitlaw05_WaitsOrder) :=
  Sound.pure (C := cx_plaitlaw05_WaitsOrder) (fn := Try.f5) (by kernel_rfl) (c := bodyOf Try.f5) (by kernel_rfl) (by decide) (ctxOK mixed tbl_ok rfl ⟨F_waits_Drop_ok, F_plaitref05_Drop_ok, F_plaitref05_Same_lent1_ok, F_waits_First_ok, F_plaitref05_Drop_lent_ok, F_waits_Push_ok, F_plaitref05_Has_ok, F_plaitref05_Same_ok, F_plaitref05_Has_lent_ok, F_plaitlaw05_alive_ok, trivial⟩) (SumOK.of ⟨(pieces_one (d := .loop (loopOf 20 Try.f5)) (by kernel_rfl) L_plaitlaw05_WaitsOrder_20v2_ok), (pieces_one (d := .loop (loopOf 4 Try.f5)) (by kernel_rfl) L_plaitlaw05_WaitsOrder_4_ok), trivial⟩) (by kernel_rfl) rfl _ _ (by decide) _ (fun x => by kernel_rfl)
abbrev sh_plaitlaw10_LocksOrder_13v3 : Shape := { sl := [(3, (.ptr 0 [])), (4, (.sl 2)), (5, (.hole (.int .i64))), (6, (.hole (.int .i64))), (7, (.hole (.int .i64))), (10, (.hole (.int .i64))), (11, (.ptr 1 [])), (12, (.hole .bool)), (13, (.hole (.int .i64))), (14, (.hole .bool)), (27, (.hole (.slice (.int .i64)))), (28, (.hole (.int .i64))), (29, (.hole (.int .i64))), (51, (.sl 2)), (52, (.hole (.int .i64))), (53, (.hole (.int .i64)))], bl := [.var (.hole (.pair .bool (.slice (.pair (.int .i64) (.pair (.int .i64) (.int .i64)))))), .var (.hole (.pair .bool (.slice (.pair (.int .i64) (.pair (.int .i64) (.int .i64)))))), .row (.int .i64)], ts := [(.int .i64), (.int .i64), (.int .i64), (.int .i64), .bool, (.int .i64), .bool, (.slice (.int .i64)), (.int .i64), (.int .i64), (.int .i64), (.int .i64), (.pair .bool (.slice (.pair (.int .i64) (.pair (.int .i64) (.int .i64))))), (.pair .bool (.slice (.pair (.int .i64) (.pair (.int .i64) (.int .i64))))), (.slice (.int .i64))], pin := 0 }
abbrev es_plaitlaw10_LocksOrder_13v3 : List (ETag × Shape) := [(.exit 2, { sl := [(3, (.ptr 0 [])), (4, (.sl 2)), (5, (.hole (.int .i64))), (6, (.hole (.int .i64))), (7, (.hole (.int .i64))), (10, (.hole (.int .i64))), (11, (.ptr 1 [])), (12, (.hole .bool)), (13, (.hole (.int .i64))), (14, (.hole .bool)), (27, (.hole (.slice (.int .i64)))), (28, (.hole (.int .i64))), (29, (.hole (.int .i64)))], bl := [.var (.hole (.pair .bool (.slice (.pair (.int .i64) (.pair (.int .i64) (.int .i64)))))), .var (.hole (.pair .bool (.slice (.pair (.int .i64) (.pair (.int .i64) (.int .i64)))))), .row (.int .i64)], ts := [(.int .i64), (.int .i64), (.int .i64), (.int .i64), .bool, (.int .i64), .bool, (.slice (.int .i64)), (.int .i64), (.int .i64), (.pair .bool (.slice (.pair (.int .i64) (.pair (.int .i64) (.int .i64))))), (.pair .bool (.slice (.pair (.int .i64) (.pair (.int .i64) (.int .i64))))), (.slice (.int .i64))], pin := 0 })]
noncomputable def L_plaitlaw10_LocksOrder_13v3 (x : (Int × Int × Int × Int × Bool × Int × Bool × List (Int) × Int × Int × Int × Int × (Bool × List ((Int × (Int × Int)))) × (Bool × List ((Int × (Int × Int)))) × List (Int))) : Option ((Int × Int × Int × Int × Bool × Int × Bool × List (Int) × Int × Int × Int × Int × (Bool × List ((Int × (Int × Int)))) × (Bool × List ((Int × (Int × Int)))) × List (Int)) ⊕ ((Int × Int × Int × Int × Bool × Int × Bool × List (Int) × Int × Int × (Bool × List ((Int × (Int × Int)))) × (Bool × List ((Int × (Int × Int)))) × List (Int)))) :=
  bif (decide (x.2.2.2.2.2.2.2.2.2.2.2.1 < x.2.2.2.2.2.2.2.2.2.2.1)) then
    bif (Go.Proofs.Ytegbkaaibgdheaa.VX.inb x.2.2.2.2.2.2.2.2.2.2.2.1 (List.length x.2.2.2.2.2.2.2.2.2.2.2.2.2.2)) then
      bif x.2.2.2.2.2.2.1 then
        some (.inl (x.1, (x.2.1, (x.2.2.1, (x.2.2.2.1, (x.2.2.2.2.1, (x.2.2.2.2.2.1, (true, (x.2.2.2.2.2.2.2.1, (x.2.2.2.2.2.2.2.2.1, (x.2.2.2.2.2.2.2.2.2.1, (x.2.2.2.2.2.2.2.2.2.2.1, ((Go.IntKind.wrap Go.IntKind.i64 (x.2.2.2.2.2.2.2.2.2.2.2.1 + (1 : Int))), (x.2.2.2.2.2.2.2.2.2.2.2.2.1, (x.2.2.2.2.2.2.2.2.2.2.2.2.2.1, x.2.2.2.2.2.2.2.2.2.2.2.2.2.2)))))))))))))))
      else
        some (.inl (x.1, (x.2.1, (x.2.2.1, (x.2.2.2.1, (x.2.2.2.2.1, (x.2.2.2.2.2.1, (((Go.Proofs.Ytegbkaaibgdheaa.VX.getAt (0 : Int) x.2.2.2.2.2.2.2.2.2.2.2.2.2.2 (Go.Proofs.Ytegbkaaibgdheaa.VX.toN x.2.2.2.2.2.2.2.2.2.2.2.1)) == x.2.2.2.1), (x.2.2.2.2.2.2.2.1, (x.2.2.2.2.2.2.2.2.1, (x.2.2.2.2.2.2.2.2.2.1, (x.2.2.2.2.2.2.2.2.2.2.1, ((Go.IntKind.wrap Go.IntKind.i64 (x.2.2.2.2.2.2.2.2.2.2.2.1 + (1 : Int))), (x.2.2.2.2.2.2.2.2.2.2.2.2.1, (x.2.2.2.2.2.2.2.2.2.2.2.2.2.1, x.2.2.2.2.2.2.2.2.2.2.2.2.2.2)))))))))))))))
    else
      none
  else
    some (.inr (x.1, (x.2.1, (x.2.2.1, (x.2.2.2.1, (x.2.2.2.2.1, (x.2.2.2.2.2.1, (x.2.2.2.2.2.2.1, (x.2.2.2.2.2.2.2.1, (x.2.2.2.2.2.2.2.2.1, (x.2.2.2.2.2.2.2.2.2.1, (x.2.2.2.2.2.2.2.2.2.2.2.2.1, (x.2.2.2.2.2.2.2.2.2.2.2.2.2.1, x.2.2.2.2.2.2.2.2.2.2.2.2.2.2)))))))))))))
noncomputable def cx_plaitlaw10_LocksOrder_13v3 : Ctx := { tb := mkTb T2.tbl, fx := [(36, [], Spec.shp si_locks_Take so_locks_Take F_locks_Take), (38, [], Spec.shp si_locks_Waiting so_locks_Waiting F_locks_Waiting), (37, [], Spec.shp si_locks_Give so_locks_Give F_locks_Give)], sum := [], nt := 157, pin := 0, nr := true, ys := [], rw := [(37, [4])] }
theorem L_plaitlaw10_LocksOrder_13v3_ok : CSound Try.prog ⟨157, 0, true⟩ (.loop (loopOf 13 Try.f9)) (pieceSpec sh_plaitlaw10_LocksOrder_13v3 es_plaitlaw10_LocksOrder_13v3 (loop L_plaitlaw10_LocksOrder_13v3)) :=
  loop_sound (C := cx_plaitlaw10_LocksOrder_13v3) (ctxOK mixed tbl_ok rfl ⟨F_locks_Take_ok, F_locks_Waiting_ok, F_locks_Give_ok, trivial⟩ trivial) (SumOK.of trivial) sh_plaitlaw10_LocksOrder_13v3 es_plaitlaw10_LocksOrder_13v3 rfl rfl L_plaitlaw10_LocksOrder_13v3 (fun x => by kernel_rfl)
abbrev sh_plaitlaw10_LocksOrder_6 : Shape := { sl := [(3, (.ptr 0 [])), (4, (.sl 1)), (5, (.hole (.int .i64))), (6, (.hole (.int .i64))), (7, (.hole (.int .i64))), (27, (.hole (.slice (.int .i64)))), (28, (.hole (.int .i64))), (29, (.hole (.int .i64)))], bl := [.var (.hole (.pair .bool (.slice (.pair (.int .i64) (.pair (.int .i64) (.int .i64)))))), .row (.int .i64)], ts := [(.int .i64), (.int .i64), (.int .i64), (.slice (.int .i64)), (.int .i64), (.int .i64), (.pair .bool (.slice (.pair (.int .i64) (.pair (.int .i64) (.int .i64))))), (.slice (.int .i64))], pin := 0 }
abbrev es_plaitlaw10_LocksOrder_6 : List (ETag × Shape) := [(.ret, { sl := [(2, (.hole .bool))], bl := [], ts := [.bool], pin := 0 }), (.exit 0, { sl := [], bl := [], ts := [], pin := 0 })]
noncomputable def L_plaitlaw10_LocksOrder_6 (x : (Int × Int × Int × List (Int) × Int × Int × (Bool × List ((Int × (Int × Int)))) × List (Int))) : Option ((Int × Int × Int × List (Int) × Int × Int × (Bool × List ((Int × (Int × Int)))) × List (Int)) ⊕ ((Bool) ⊕ Unit)) :=
  bif (decide (x.2.2.2.2.2.1 < x.2.2.2.2.1)) then
    bif (Go.Proofs.Ytegbkaaibgdheaa.VX.inb x.2.2.2.2.2.1 (List.length x.2.2.2.1)) then
      bif ((Int.tmod (Go.Proofs.Ytegbkaaibgdheaa.VX.getAt (0 : Int) x.2.2.2.1 (Go.Proofs.Ytegbkaaibgdheaa.VX.toN x.2.2.2.2.2.1)) (2 : Int)) == (0 : Int)) then
        ((F_locks_Take (x.2.2.2.2.2.2.1, ((Int.tmod (Go.IntKind.wrap Go.IntKind.i64 ((Int.tmod (Go.IntKind.wrap Go.IntKind.i64 (Int.tdiv (Go.Proofs.Ytegbkaaibgdheaa.VX.getAt (0 : Int) x.2.2.2.1 (Go.Proofs.Ytegbkaaibgdheaa.VX.toN x.2.2.2.2.2.1)) (2 : Int))) (9 : Int)) + (9 : Int))) (9 : Int)), ((0 : Int), x.2.2.2.2.2.1))))).bind fun r2 =>
        ((loop L_plaitlaw10_LocksOrder_13v3 (x.1, (x.2.1, (x.2.2.1, ((Int.tmod (Go.IntKind.wrap Go.IntKind.i64 ((Int.tmod (Go.IntKind.wrap Go.IntKind.i64 (Int.tdiv (Go.Proofs.Ytegbkaaibgdheaa.VX.getAt (0 : Int) x.2.2.2.1 (Go.Proofs.Ytegbkaaibgdheaa.VX.toN x.2.2.2.2.2.1)) (2 : Int))) (9 : Int)) + (9 : Int))) (9 : Int)), (r2.2.1, (r2.2.2, (false, (x.2.2.2.1, (x.2.2.2.2.1, (x.2.2.2.2.2.1, ((((List.length x.2.2.2.2.2.2.2) : Nat) : Int), ((0 : Int), (x.2.2.2.2.2.2.1, (r2.1, x.2.2.2.2.2.2.2)))))))))))))))).bind fun r3 =>
        bif r3.2.2.2.2.2.2.1 then
          bif (r3.2.2.2.2.2.1 != (7 : Int)) then
            some (.inr (.inl false))
          else
            some (.inl (r3.1, (r3.2.1, (r3.2.2.1, (r3.2.2.2.2.2.2.2.1, (r3.2.2.2.2.2.2.2.2.1, ((Go.IntKind.wrap Go.IntKind.i64 (r3.2.2.2.2.2.2.2.2.2.1 + (1 : Int))), (r3.2.2.2.2.2.2.2.2.2.2.1, r3.2.2.2.2.2.2.2.2.2.2.2.2))))))))
        else
          bif (r3.2.2.2.2.2.1 != (0 : Int)) then
            some (.inr (.inl false))
          else
            bif (Bool.not (Go.Proofs.Ytegbkaaibgdheaa.VX.Ty.beq Go.Proofs.Ytegbkaaibgdheaa.VX.Ty.bool r3.2.2.2.2.1 (decide (r3.1 < (0 : Int))))) then
              some (.inr (.inl false))
            else
              bif r3.2.2.2.2.1 then
                ((F_locks_Waiting r3.2.2.2.2.2.2.2.2.2.2.2.1)).bind fun r4 =>
                bif (r4.2 != (0 : Int)) then
                  some (.inr (.inl false))
                else
                  bif (r4.1 != (((List.length r3.2.2.2.2.2.2.2.2.2.2.2.2) : Nat) : Int)) then
                    some (.inr (.inl false))
                  else
                    bif (Bool.not (Go.Proofs.Ytegbkaaibgdheaa.VX.Ty.beq Go.Proofs.Ytegbkaaibgdheaa.VX.Ty.bool r3.2.2.2.2.2.2.2.2.2.2.2.1.1 (decide (r3.2.2.2.1 ≥ (0 : Int))))) then
                      some (.inr (.inl false))
                    else
                      bif (Bool.not (Go.Proofs.Ytegbkaaibgdheaa.VX.Ty.beq Go.Proofs.Ytegbkaaibgdheaa.VX.Ty.bool ((Go.IntKind.wrap Go.IntKind.i64 (r3.2.1 + (1 : Int))) == (Go.IntKind.wrap Go.IntKind.i64 (r3.2.2.1 + (1 : Int)))) r3.2.2.2.2.2.2.2.2.2.2.2.1.1)) then
                        some (.inr (.inl false))
                      else
                        bif (decide ((Go.IntKind.wrap Go.IntKind.i64 (r3.2.1 + (1 : Int))) < r3.2.2.1)) then
                          some (.inr (.inl false))
                        else
                          some (.inl (r3.2.2.2.1, ((Go.IntKind.wrap Go.IntKind.i64 (r3.2.1 + (1 : Int))), (r3.2.2.1, (r3.2.2.2.2.2.2.2.1, (r3.2.2.2.2.2.2.2.2.1, ((Go.IntKind.wrap Go.IntKind.i64 (r3.2.2.2.2.2.2.2.2.2.1 + (1 : Int))), (r3.2.2.2.2.2.2.2.2.2.2.2.1, r3.2.2.2.2.2.2.2.2.2.2.2.2))))))))
              else
                bif (Go.Proofs.Ytegbkaaibgdheaa.VX.fits ((List.length r3.2.2.2.2.2.2.2.2.2.2.2.2) + (List.length (r3.2.2.2.1 :: ([] : List Int))))) then
                  ((F_locks_Waiting r3.2.2.2.2.2.2.2.2.2.2.2.1)).bind fun r4 =>
                  bif (r4.2 != (0 : Int)) then
                    some (.inr (.inl false))
                  else
                    bif (r4.1 != (((List.length (r3.2.2.2.2.2.2.2.2.2.2.2.2 ++ (r3.2.2.2.1 :: ([] : List Int)))) : Nat) : Int)) then
                      some (.inr (.inl false))
                    else
                      bif (Bool.not (Go.Proofs.Ytegbkaaibgdheaa.VX.Ty.beq Go.Proofs.Ytegbkaaibgdheaa.VX.Ty.bool r3.2.2.2.2.2.2.2.2.2.2.2.1.1 (decide (r3.1 ≥ (0 : Int))))) then
                        some (.inr (.inl false))
                      else
                        bif (Bool.not (Go.Proofs.Ytegbkaaibgdheaa.VX.Ty.beq Go.Proofs.Ytegbkaaibgdheaa.VX.Ty.bool (r3.2.1 == (Go.IntKind.wrap Go.IntKind.i64 (r3.2.2.1 + (1 : Int)))) r3.2.2.2.2.2.2.2.2.2.2.2.1.1)) then
                          some (.inr (.inl false))
                        else
                          bif (decide (r3.2.1 < r3.2.2.1)) then
                            some (.inr (.inl false))
                          else
                            some (.inl (r3.1, (r3.2.1, (r3.2.2.1, (r3.2.2.2.2.2.2.2.1, (r3.2.2.2.2.2.2.2.2.1, ((Go.IntKind.wrap Go.IntKind.i64 (r3.2.2.2.2.2.2.2.2.2.1 + (1 : Int))), (r3.2.2.2.2.2.2.2.2.2.2.2.1, (r3.2.2.2.2.2.2.2.2.2.2.2.2 ++ (r3.2.2.2.1 :: ([] : List Int)))))))))))
                else
                  none
      else
        ((F_locks_Give x.2.2.2.2.2.2.1)).bind fun r2 =>
        bif (decide (x.1 < (0 : Int))) then
          bif (r2.2.2.2 != (6 : Int)) then
            some (.inr (.inl false))
          else
            some (.inl (x.1, (x.2.1, (x.2.2.1, (x.2.2.2.1, (x.2.2.2.2.1, ((Go.IntKind.wrap Go.IntKind.i64 (x.2.2.2.2.2.1 + (1 : Int))), (x.2.2.2.2.2.2.1, x.2.2.2.2.2.2.2))))))))
        else
          bif (r2.2.2.2 != (0 : Int)) then
            some (.inr (.inl false))
          else
            bif (Bool.not (Go.Proofs.Ytegbkaaibgdheaa.VX.Ty.beq Go.Proofs.Ytegbkaaibgdheaa.VX.Ty.bool r2.2.2.1 (decide ((((List.length x.2.2.2.2.2.2.2) : Nat) : Int) > (0 : Int))))) then
              some (.inr (.inl false))
            else
              bif r2.2.2.1 then
                bif (Go.Proofs.Ytegbkaaibgdheaa.VX.inb (0 : Int) (List.length x.2.2.2.2.2.2.2)) then
                  bif (r2.2.1.1 != (Go.Proofs.Ytegbkaaibgdheaa.VX.getAt (0 : Int) x.2.2.2.2.2.2.2 (Go.Proofs.Ytegbkaaibgdheaa.VX.toN (0 : Int)))) then
                    some (.inr (.inl false))
                  else
                    bif (Go.Proofs.Ytegbkaaibgdheaa.VX.inb (0 : Int) (List.length x.2.2.2.2.2.2.2)) then
                      bif (Go.Proofs.Ytegbkaaibgdheaa.VX.sub3 (1 : Int) (((List.length x.2.2.2.2.2.2.2) : Nat) : Int) (List.length x.2.2.2.2.2.2.2)) then
                        ((F_locks_Waiting r2.1)).bind fun r3 =>
                        bif (r3.2 != (0 : Int)) then
                          some (.inr (.inl false))
                        else
                          bif (r3.1 != (((List.length (Go.Proofs.Ytegbkaaibgdheaa.VX.cut x.2.2.2.2.2.2.2 (Go.Proofs.Ytegbkaaibgdheaa.VX.toN (1 : Int)) ((Go.Proofs.Ytegbkaaibgdheaa.VX.toN (((List.length x.2.2.2.2.2.2.2) : Nat) : Int)) - (Go.Proofs.Ytegbkaaibgdheaa.VX.toN (1 : Int))))) : Nat) : Int)) then
                            some (.inr (.inl false))
                          else
                            bif (Bool.not (Go.Proofs.Ytegbkaaibgdheaa.VX.Ty.beq Go.Proofs.Ytegbkaaibgdheaa.VX.Ty.bool r2.1.1 (decide ((Go.Proofs.Ytegbkaaibgdheaa.VX.getAt (0 : Int) x.2.2.2.2.2.2.2 (Go.Proofs.Ytegbkaaibgdheaa.VX.toN (0 : Int))) ≥ (0 : Int))))) then
                              some (.inr (.inl false))
                            else
                              bif (Bool.not (Go.Proofs.Ytegbkaaibgdheaa.VX.Ty.beq Go.Proofs.Ytegbkaaibgdheaa.VX.Ty.bool ((Go.IntKind.wrap Go.IntKind.i64 (x.2.1 + (1 : Int))) == (Go.IntKind.wrap Go.IntKind.i64 ((Go.IntKind.wrap Go.IntKind.i64 (x.2.2.1 + (1 : Int))) + (1 : Int)))) r2.1.1)) then
                                some (.inr (.inl false))
                              else
                                bif (decide ((Go.IntKind.wrap Go.IntKind.i64 (x.2.1 + (1 : Int))) < (Go.IntKind.wrap Go.IntKind.i64 (x.2.2.1 + (1 : Int))))) then
                                  some (.inr (.inl false))
                                else
                                  some (.inl ((Go.Proofs.Ytegbkaaibgdheaa.VX.getAt (0 : Int) x.2.2.2.2.2.2.2 (Go.Proofs.Ytegbkaaibgdheaa.VX.toN (0 : Int))), ((Go.IntKind.wrap Go.IntKind.i64 (x.2.1 + (1 : Int))), ((Go.IntKind.wrap Go.IntKind.i64 (x.2.2.1 + (1 : Int))), (x.2.2.2.1, (x.2.2.2.2.1, ((Go.IntKind.wrap Go.IntKind.i64 (x.2.2.2.2.2.1 + (1 : Int))), (r2.1, (Go.Proofs.Ytegbkaaibgdheaa.VX.cut x.2.2.2.2.2.2.2 (Go.Proofs.Ytegbkaaibgdheaa.VX.toN (1 : Int)) ((Go.Proofs.Ytegbkaaibgdheaa.VX.toN (((List.length x.2.2.2.2.2.2.2) : Nat) : Int)) - (Go.Proofs.Ytegbkaaibgdheaa.VX.toN (1 : Int))))))))))))
                      else
                        none
                    else
                      none
                else
                  none
              else
                ((F_locks_Waiting r2.1)).bind fun r3 =>
                bif (r3.2 != (0 : Int)) then
                  some (.inr (.inl false))
                else
                  bif (r3.1 != (((List.length x.2.2.2.2.2.2.2) : Nat) : Int)) then
                    some (.inr (.inl false))
                  else
                    bif (Bool.not (Go.Proofs.Ytegbkaaibgdheaa.VX.Ty.beq Go.Proofs.Ytegbkaaibgdheaa.VX.Ty.bool r2.1.1 (decide ((Int.negSucc 0) ≥ (0 : Int))))) then
                      some (.inr (.inl false))
                    else
                      bif (Bool.not (Go.Proofs.Ytegbkaaibgdheaa.VX.Ty.beq Go.Proofs.Ytegbkaaibgdheaa.VX.Ty.bool (x.2.1 == (Go.IntKind.wrap Go.IntKind.i64 ((Go.IntKind.wrap Go.IntKind.i64 (x.2.2.1 + (1 : Int))) + (1 : Int)))) r2.1.1)) then
                        some (.inr (.inl false))
                      else
                        bif (decide (x.2.1 < (Go.IntKind.wrap Go.IntKind.i64 (x.2.2.1 + (1 : Int))))) then
                          some (.inr (.inl false))
                        else
                          some (.inl ((Int.negSucc 0), (x.2.1, ((Go.IntKind.wrap Go.IntKind.i64 (x.2.2.1 + (1 : Int))), (x.2.2.2.1, (x.2.2.2.2.1, ((Go.IntKind.wrap Go.IntKind.i64 (x.2.2.2.2.2.1 + (1 : Int))), (r2.1, x.2.2.2.2.2.2.2))))))))
    else
      none
  else
    some (.inr (.inr ()))
noncomputable def cx_plaitlaw10_LocksOrder_6 : Ctx := { tb := mkTb T2.tbl, fx := [(36, [], Spec.shp si_locks_Take so_locks_Take F_locks_Take), (38, [], Spec.shp si_locks_Waiting so_locks_Waiting F_locks_Waiting), (37, [], Spec.shp si_locks_Give so_locks_Give F_locks_Give)], sum := [(0, 13, pieceSpec sh_plaitlaw10_LocksOrder_13v3 es_plaitlaw10_LocksOrder_13v3 (loop L_plaitlaw10_LocksOrder_13v3))], nt := 157, pin := 0, nr := true, ys := [], rw := [(37, [4])] }
theorem L_plaitlaw10_LocksOrder_6_ok : CSound Try.prog ⟨157, 0, true⟩ (.loop (loopOf 6 Try.f9)) (pieceSpec sh_plaitlaw10_LocksOrder_6 es_plaitlaw10_LocksOrder_6 (loop L_plaitlaw10_LocksOrder_6)) :=
  loop_sound (C := cx_plaitlaw10_LocksOrder_6) (ctxOK mixed tbl_ok rfl ⟨F_locks_Take_ok, F_locks_Waiting_ok, F_locks_Give_ok, trivial⟩ trivial) (SumOK.of ⟨(pieces_one (d := .loop (loopOf 13 Try.f9)) (by kernel_rfl) L_plaitlaw10_LocksOrder_13v3_ok), trivial⟩) sh_plaitlaw10_LocksOrder_6 es_plaitlaw10_LocksOrder_6 rfl rfl L_plaitlaw10_LocksOrder_6 (fun x => by kernel_rfl)
noncomputable def F_plaitlaw10_LocksOrder (x : (List (Int))) : Option (Bool) :=
  bif (Go.Proofs.Ytegbkaaibgdheaa.VX.sub3 (0 : Int) (Min.min (((List.length x) : Nat) : Int) (150 : Int)) (List.length x)) then
    ((loop L_plaitlaw10_LocksOrder_6 ((Int.negSucc 0), ((0 : Int), ((0 : Int), ((Go.Proofs.Ytegbkaaibgdheaa.VX.cut x (Go.Proofs.Ytegbkaaibgdheaa.VX.toN (0 : Int)) ((Go.Proofs.Ytegbkaaibgdheaa.VX.toN (Min.min (((List.length x) : Nat) : Int) (150 : Int))) - (Go.Proofs.Ytegbkaaibgdheaa.VX.toN (0 : Int)))), ((((List.length (Go.Proofs.Ytegbkaaibgdheaa.VX.cut x (Go.Proofs.Ytegbkaaibgdheaa.VX.toN (0 : Int)) ((Go.Proofs.Ytegbkaaibgdheaa.VX.toN (Min.min (((List.length x) : Nat) : Int) (150 : Int))) - (Go.Proofs.Ytegbkaaibgdheaa.VX.toN (0 : Int))))) : Nat) : Int), ((0 : Int), ((false, ([] : List (Int × (Int × Int)))), ([] : List Int)))))))))).bind fun r1 =>
    match r1 with
    | .inl y2 =>
      some y2
    | .inr y2 =>
      ((F_plaitlaw10_alive ())).bind fun r3 =>
      some r3
  else
    none
noncomputable def cx_plaitlaw10_LocksOrder : Ctx := { tb := mkTb T2.tbl, fx := [(36, [], Spec.shp si_locks_Take so_locks_Take F_locks_Take), (38, [], Spec.shp si_locks_Waiting so_locks_Waiting F_locks_Waiting), (37, [], Spec.shp si_locks_Give so_locks_Give F_locks_Give), (41, [], Spec.shp si_plaitlaw10_alive so_plaitlaw10_alive F_plaitlaw10_alive)], sum := [(0, 13, pieceSpec sh_plaitlaw10_LocksOrder_13v3 es_plaitlaw10_LocksOrder_13v3 (loop L_plaitlaw10_LocksOrder_13v3)), (0, 6, pieceSpec sh_plaitlaw10_LocksOrder_6 es_plaitlaw10_LocksOrder_6 (loop L_plaitlaw10_LocksOrder_6))], nt := 157, pin := 0, nr := true, ys := [], rw := [(37, [4])] }
theorem F_plaitlaw10_LocksOrder_ok : Sound Try.prog 9 (Spec.pure [(.slice (.int .i64))] [.bool] F_plaitlaw10_LocksOrder) :=
  Sound.pure (C := cx_plaitlaw10_LocksOrder) (fn := Try.f9) (by kernel_rfl) (c := bodyOf Try.f9) (by kernel_rfl) (by decide) (ctxOK mixed tbl_ok rfl ⟨F_locks_Take_ok, F_locks_Waiting_ok, F_locks_Give_ok, F_plaitlaw10_alive_ok, trivial⟩) (SumOK.of ⟨(pieces_one (d := .loop (loopOf 13 Try.f9)) (by kernel_rfl) L_plaitlaw10_LocksOrder_13v3_ok), (pieces_one (d := .loop (loopOf 6 Try.f9)) (by kernel_rfl) L_plaitlaw10_LocksOrder_6_ok), trivial⟩) (by kernel_rfl) rfl _ _ (by decide) _ (fun x => by kernel_rfl)
abbrev sh_plaitlaw04_RingOrder_8 : Shape := { sl := [(0, (.hole (.int .i64))), (5, (.ptr 0 [])), (7, (.sl 1)), (32, (.hole (.slice (.int .i64)))), (33, (.hole (.int .i64))), (34, (.hole (.int .i64)))], bl := [.var (.hole (.pair (.int .i64) (.pair (.int .i64) (.pair (.slice (.int .i64)) (.int .i64))))), .row (.int .i64)], ts := [(.int .i64), (.slice (.int .i64)), (.int .i64), (.int .i64), (.pair (.int .i64) (.pair (.int .i64) (.pair (.slice (.int .i64)) (.int .i64)))), (.slice (.int .i64))], pin := 0 }
abbrev es_plaitlaw04_RingOrder_8 : List (ETag × Shape) := [(.ret, { sl := [(4, (.hole .bool))], bl := [], ts := [.bool], pin := 0 }), (.exit 0, { sl := [], bl := [], ts := [], pin := 0 })]
noncomputable def L_plaitlaw04_RingOrder_8 (x : (Int × List (Int) × Int × Int × (Int × (Int × (List (Int) × Int))) × List (Int))) : Option ((Int × List (Int) × Int × Int × (Int × (Int × (List (Int) × Int))) × List (Int)) ⊕ ((Bool) ⊕ Unit)) :=
  bif (decide (x.2.2.2.1 < x.2.2.1)) then
    bif (Go.Proofs.Ytegbkaaibgdheaa.VX.inb x.2.2.2.1 (List.length x.2.1)) then
      bif ((Int.tmod (Go.Proofs.Ytegbkaaibgdheaa.VX.getAt (0 : Int) x.2.1 (Go.Proofs.Ytegbkaaibgdheaa.VX.toN x.2.2.2.1)) (2 : Int)) == (0 : Int)) then
        ((F_ring_Push (x.2.2.2.2.1, (Go.Proofs.Ytegbkaaibgdheaa.VX.getAt (0 : Int) x.2.1 (Go.Proofs.Ytegbkaaibgdheaa.VX.toN x.2.2.2.1))))).bind fun r3 =>
        bif (Bool.not (Go.Proofs.Ytegbkaaibgdheaa.VX.Ty.beq Go.Proofs.Ytegbkaaibgdheaa.VX.Ty.bool (r3.2 == (5 : Int)) ((((List.length x.2.2.2.2.2) : Nat) : Int) == x.1))) then
          some (.inr (.inl false))
        else
          bif (r3.2 != (0 : Int)) then
            bif (r3.2 != (5 : Int)) then
              some (.inr (.inl false))
            else
              bif (r3.2 == (0 : Int)) then
                bif (Go.Proofs.Ytegbkaaibgdheaa.VX.fits ((List.length x.2.2.2.2.2) + (List.length ((Go.Proofs.Ytegbkaaibgdheaa.VX.getAt (0 : Int) x.2.1 (Go.Proofs.Ytegbkaaibgdheaa.VX.toN x.2.2.2.1)) :: ([] : List Int))))) then
                  ((F_ring_Items r3.1)).bind fun r4 =>
                  bif (r4.2 != (0 : Int)) then
                    some (.inr (.inl false))
                  else
                    ((F_plaitref01_Rows_lent1 (r4.1, (x.2.2.2.2.2 ++ ((Go.Proofs.Ytegbkaaibgdheaa.VX.getAt (0 : Int) x.2.1 (Go.Proofs.Ytegbkaaibgdheaa.VX.toN x.2.2.2.1)) :: ([] : List Int)))))).bind fun r5 =>
                    bif (Bool.not r5.1) then
                      some (.inr (.inl false))
                    else
                      ((F_ring_Right r3.1)).bind fun r6 =>
                      bif (Bool.not r6) then
                        some (.inr (.inl false))
                      else
                        some (.inl (x.1, (x.2.1, (x.2.2.1, ((Go.IntKind.wrap Go.IntKind.i64 (x.2.2.2.1 + (1 : Int))), (r3.1, r5.2))))))
                else
                  none
              else
                ((F_ring_Items x.2.2.2.2.1)).bind fun r4 =>
                bif (r4.2 != (0 : Int)) then
                  some (.inr (.inl false))
                else
                  ((F_plaitref01_Rows_lent1 (r4.1, x.2.2.2.2.2))).bind fun r5 =>
                  bif (Bool.not r5.1) then
                    some (.inr (.inl false))
                  else
                    ((F_ring_Right x.2.2.2.2.1)).bind fun r6 =>
                    bif (Bool.not r6) then
                      some (.inr (.inl false))
                    else
                      some (.inl (x.1, (x.2.1, (x.2.2.1, ((Go.IntKind.wrap Go.IntKind.i64 (x.2.2.2.1 + (1 : Int))), (x.2.2.2.2.1, r5.2))))))
          else
            bif (r3.2 == (0 : Int)) then
              bif (Go.Proofs.Ytegbkaaibgdheaa.VX.fits ((List.length x.2.2.2.2.2) + (List.length ((Go.Proofs.Ytegbkaaibgdheaa.VX.getAt (0 : Int) x.2.1 (Go.Proofs.Ytegbkaaibgdheaa.VX.toN x.2.2.2.1)) :: ([] : List Int))))) then
                ((F_ring_Items r3.1)).bind fun r4 =>
                bif (r4.2 != (0 : Int)) then
                  some (.inr (.inl false))
                else
                  ((F_plaitref01_Rows_lent1 (r4.1, (x.2.2.2.2.2 ++ ((Go.Proofs.Ytegbkaaibgdheaa.VX.getAt (0 : Int) x.2.1 (Go.Proofs.Ytegbkaaibgdheaa.VX.toN x.2.2.2.1)) :: ([] : List Int)))))).bind fun r5 =>
                  bif (Bool.not r5.1) then
                    some (.inr (.inl false))
                  else
                    ((F_ring_Right r3.1)).bind fun r6 =>
                    bif (Bool.not r6) then
                      some (.inr (.inl false))
                    else
                      some (.inl (x.1, (x.2.1, (x.2.2.1, ((Go.IntKind.wrap Go.IntKind.i64 (x.2.2.2.1 + (1 : Int))), (r3.1, r5.2))))))
              else
                none
            else
              ((F_ring_Items x.2.2.2.2.1)).bind fun r4 =>
              bif (r4.2 != (0 : Int)) then
                some (.inr (.inl false))
              else
                ((F_plaitref01_Rows_lent1 (r4.1, x.2.2.2.2.2))).bind fun r5 =>
                bif (Bool.not r5.1) then
                  some (.inr (.inl false))
                else
                  ((F_ring_Right x.2.2.2.2.1)).bind fun r6 =>
                  bif (Bool.not r6) then
                    some (.inr (.inl false))
                  else
                    some (.inl (x.1, (x.2.1, (x.2.2.1, ((Go.IntKind.wrap Go.IntKind.i64 (x.2.2.2.1 + (1 : Int))), (x.2.2.2.2.1, r5.2))))))
      else
        ((F_ring_Pop x.2.2.2.2.1)).bind fun r3 =>
        bif (Bool.not (Go.Proofs.Ytegbkaaibgdheaa.VX.Ty.beq Go.Proofs.Ytegbkaaibgdheaa.VX.Ty.bool (r3.2.2 == (4 : Int)) ((((List.length x.2.2.2.2.2) : Nat) : Int) == (0 : Int)))) then
          some (.inr (.inl false))
        else
          bif (r3.2.2 != (0 : Int)) then
            bif (r3.2.2 != (4 : Int)) then
              some (.inr (.inl false))
            else
              bif (r3.2.2 == (0 : Int)) then
                bif (Go.Proofs.Ytegbkaaibgdheaa.VX.inb (0 : Int) (List.length x.2.2.2.2.2)) then
                  bif (r3.2.1 != (Go.Proofs.Ytegbkaaibgdheaa.VX.getAt (0 : Int) x.2.2.2.2.2 (Go.Proofs.Ytegbkaaibgdheaa.VX.toN (0 : Int)))) then
                    some (.inr (.inl false))
                  else
                    bif (Go.Proofs.Ytegbkaaibgdheaa.VX.sub3 (1 : Int) (((List.length x.2.2.2.2.2) : Nat) : Int) (List.length x.2.2.2.2.2)) then
                      ((F_ring_Items r3.1)).bind fun r4 =>
                      bif (r4.2 != (0 : Int)) then
                        some (.inr (.inl false))
                      else
                        ((F_plaitref01_Rows_lent1 (r4.1, (Go.Proofs.Ytegbkaaibgdheaa.VX.cut x.2.2.2.2.2 (Go.Proofs.Ytegbkaaibgdheaa.VX.toN (1 : Int)) ((Go.Proofs.Ytegbkaaibgdheaa.VX.toN (((List.length x.2.2.2.2.2) : Nat) : Int)) - (Go.Proofs.Ytegbkaaibgdheaa.VX.toN (1 : Int))))))).bind fun r5 =>
                        bif (Bool.not r5.1) then
                          some (.inr (.inl false))
                        else
                          ((F_ring_Right r3.1)).bind fun r6 =>
                          bif (Bool.not r6) then
                            some (.inr (.inl false))
                          else
                            some (.inl (x.1, (x.2.1, (x.2.2.1, ((Go.IntKind.wrap Go.IntKind.i64 (x.2.2.2.1 + (1 : Int))), (r3.1, r5.2))))))
                    else
                      none
                else
                  none
              else
                ((F_ring_Items x.2.2.2.2.1)).bind fun r4 =>
                bif (r4.2 != (0 : Int)) then
                  some (.inr (.inl false))
                else
                  ((F_plaitref01_Rows_lent1 (r4.1, x.2.2.2.2.2))).bind fun r5 =>
                  bif (Bool.not r5.1) then
                    some (.inr (.inl false))
                  else
                    ((F_ring_Right x.2.2.2.2.1)).bind fun r6 =>
                    bif (Bool.not r6) then
                      some (.inr (.inl false))
                    else
                      some (.inl (x.1, (x.2.1, (x.2.2.1, ((Go.IntKind.wrap Go.IntKind.i64 (x.2.2.2.1 + (1 : Int))), (x.2.2.2.2.1, r5.2))))))
          else
            bif (r3.2.2 == (0 : Int)) then
              bif (Go.Proofs.Ytegbkaaibgdheaa.VX.inb (0 : Int) (List.length x.2.2.2.2.2)) then
                bif (r3.2.1 != (Go.Proofs.Ytegbkaaibgdheaa.VX.getAt (0 : Int) x.2.2.2.2.2 (Go.Proofs.Ytegbkaaibgdheaa.VX.toN (0 : Int)))) then
                  some (.inr (.inl false))
                else
                  bif (Go.Proofs.Ytegbkaaibgdheaa.VX.sub3 (1 : Int) (((List.length x.2.2.2.2.2) : Nat) : Int) (List.length x.2.2.2.2.2)) then
                    ((F_ring_Items r3.1)).bind fun r4 =>
                    bif (r4.2 != (0 : Int)) then
                      some (.inr (.inl false))
                    else
                      ((F_plaitref01_Rows_lent1 (r4.1, (Go.Proofs.Ytegbkaaibgdheaa.VX.cut x.2.2.2.2.2 (Go.Proofs.Ytegbkaaibgdheaa.VX.toN (1 : Int)) ((Go.Proofs.Ytegbkaaibgdheaa.VX.toN (((List.length x.2.2.2.2.2) : Nat) : Int)) - (Go.Proofs.Ytegbkaaibgdheaa.VX.toN (1 : Int))))))).bind fun r5 =>
                      bif (Bool.not r5.1) then
                        some (.inr (.inl false))
                      else
                        ((F_ring_Right r3.1)).bind fun r6 =>
                        bif (Bool.not r6) then
                          some (.inr (.inl false))
                        else
                          some (.inl (x.1, (x.2.1, (x.2.2.1, ((Go.IntKind.wrap Go.IntKind.i64 (x.2.2.2.1 + (1 : Int))), (r3.1, r5.2))))))
                  else
                    none
              else
                none
            else
              ((F_ring_Items x.2.2.2.2.1)).bind fun r4 =>
              bif (r4.2 != (0 : Int)) then
                some (.inr (.inl false))
              else
                ((F_plaitref01_Rows_lent1 (r4.1, x.2.2.2.2.2))).bind fun r5 =>
                bif (Bool.not r5.1) then
                  some (.inr (.inl false))
                else
                  ((F_ring_Right x.2.2.2.2.1)).bind fun r6 =>
                  bif (Bool.not r6) then
                    some (.inr (.inl false))
                  else
                    some (.inl (x.1, (x.2.1, (x.2.2.1, ((Go.IntKind.wrap Go.IntKind.i64 (x.2.2.2.1 + (1 : Int))), (x.2.2.2.2.1, r5.2))))))
    else
      none
  else
    some (.inr (.inr ()))
noncomputable def cx_plaitlaw04_RingOrder_8 : Ctx := { tb := mkTb T2.tbl, fx := [(13, [], Spec.shp si_ring_New so_ring_New F_ring_New), (14, [], Spec.shp si_ring_Push so_ring_Push F_ring_Push), (16, [], Spec.shp si_ring_Items so_ring_Items F_ring_Items), (17, [2000000], Spec.shp si_plaitref01_Rows_lent1 so_plaitref01_Rows_lent1 F_plaitref01_Rows_lent1), (18, [], Spec.shp si_ring_Right so_ring_Right F_ring_Right), (17, [], Spec.shp si_plaitref01_Rows so_plaitref01_Rows F_plaitref01_Rows), (15, [], Spec.shp si_ring_Pop so_ring_Pop F_ring_Pop)], sum := [], nt := 119, pin := 0, nr := true, ys := [], rw := [(21, [7])] }
theorem L_plaitlaw04_RingOrder_8_ok : CSound Try.prog ⟨119, 0, true⟩ (.loop (loopOf 8 Try.f3)) (pieceSpec sh_plaitlaw04_RingOrder_8 es_plaitlaw04_RingOrder_8 (loop L_plaitlaw04_RingOrder_8)) :=
  loop_sound (C := cx_plaitlaw04_RingOrder_8) (ctxOK mixed tbl_ok rfl ⟨F_ring_New_ok, F_ring_Push_ok, F_ring_Items_ok, F_plaitref01_Rows_lent1_ok, F_ring_Right_ok, F_plaitref01_Rows_ok, F_ring_Pop_ok, trivial⟩ trivial) (SumOK.of trivial) sh_plaitlaw04_RingOrder_8 es_plaitlaw04_RingOrder_8 rfl rfl L_plaitlaw04_RingOrder_8 (fun x => by kernel_rfl)
noncomputable def F_plaitlaw04_RingOrder (x : (Int × List (Int))) : Option (Bool) :=
  ((F_ring_New (Int.tmod (Go.IntKind.wrap Go.IntKind.i64 ((Int.tmod x.1 (9 : Int)) + (9 : Int))) (9 : Int)))).bind fun r1 =>
  bif (r1.2 != (0 : Int)) then
    some false
  else
    bif (Go.Proofs.Ytegbkaaibgdheaa.VX.sub3 (0 : Int) (Min.min (((List.length x.2) : Nat) : Int) (200 : Int)) (List.length x.2)) then
      ((loop L_plaitlaw04_RingOrder_8 ((Int.tmod (Go.IntKind.wrap Go.IntKind.i64 ((Int.tmod x.1 (9 : Int)) + (9 : Int))) (9 : Int)), ((Go.Proofs.Ytegbkaaibgdheaa.VX.cut x.2 (Go.Proofs.Ytegbkaaibgdheaa.VX.toN (0 : Int)) ((Go.Proofs.Ytegbkaaibgdheaa.VX.toN (Min.min (((List.length x.2) : Nat) : Int) (200 : Int))) - (Go.Proofs.Ytegbkaaibgdheaa.VX.toN (0 : Int)))), ((((List.length (Go.Proofs.Ytegbkaaibgdheaa.VX.cut x.2 (Go.Proofs.Ytegbkaaibgdheaa.VX.toN (0 : Int)) ((Go.Proofs.Ytegbkaaibgdheaa.VX.toN (Min.min (((List.length x.2) : Nat) : Int) (200 : Int))) - (Go.Proofs.Ytegbkaaibgdheaa.VX.toN (0 : Int))))) : Nat) : Int), ((0 : Int), (r1.1, ([] : List Int)))))))).bind fun r2 =>
      match r2 with
      | .inl y3 =>
        some y3
      | .inr y3 =>
        ((F_plaitlaw04_alive ())).bind fun r4 =>
        some r4
    else
      none
noncomputable def cx_plaitlaw04_RingOrder : Ctx := { tb := mkTb T2.tbl, fx := [(13, [], Spec.shp si_ring_New so_ring_New F_ring_New), (14, [], Spec.shp si_ring_Push so_ring_Push F_ring_Push), (16, [], Spec.shp si_ring_Items so_ring_Items F_ring_Items), (17, [2000000], Spec.shp si_plaitref01_Rows_lent1 so_plaitref01_Rows_lent1 F_plaitref01_Rows_lent1), (18, [], Spec.shp si_ring_Right so_ring_Right F_ring_Right), (17, [], Spec.shp si_plaitref01_Rows so_plaitref01_Rows F_plaitref01_Rows), (15, [], Spec.shp si_ring_Pop so_ring_Pop F_ring_Pop), (19, [], Spec.shp si_plaitlaw04_alive so_plaitlaw04_alive F_plaitlaw04_alive)], sum := [(0, 8, pieceSpec sh_plaitlaw04_RingOrder_8 es_plaitlaw04_RingOrder_8 (loop L_plaitlaw04_RingOrder_8))], nt := 119, pin := 0, nr := true, ys := [], rw := [(21, [7])] }
theorem F_plaitlaw04_RingOrder_ok : Sound Try.prog 3 (Spec.pure [(.int .i64), (.slice (.int .i64))] [.bool] F_plaitlaw04_RingOrder) :=
  Sound.pure (C := cx_plaitlaw04_RingOrder) (fn := Try.f3) (by kernel_rfl) (c := bodyOf Try.f3) (by kernel_rfl) (by decide) (ctxOK mixed tbl_ok rfl ⟨F_ring_New_ok, F_ring_Push_ok, F_ring_Items_ok, F_plaitref01_Rows_lent1_ok, F_ring_Right_ok, F_plaitref01_Rows_ok, F_ring_Pop_ok, F_plaitlaw04_alive_ok, trivial⟩) (SumOK.of ⟨(pieces_one (d := .loop (loopOf 8 Try.f3)) (by kernel_rfl) L_plaitlaw04_RingOrder_8_ok), trivial⟩) (by kernel_rfl) rfl _ _ (by decide) _ (fun x => by kernel_rfl)
abbrev si_once_Right : Shape := { sl := [(0, (.hole (.pair (.int .i64) (.pair (.int .i64) (.slice (.pair (.int .i64) (.pair (.int .i64) (.int .i64))))))))], bl := [], ts := [(.pair (.int .i64) (.pair (.int .i64) (.slice (.pair (.int .i64) (.pair (.int .i64) (.int .i64))))))], pin := 0 }
abbrev so_once_Right : Shape := { sl := [(0, (.hole .bool))], bl := [], ts := [.bool], pin := 0 }
noncomputable def F_once_Right (x : ((Int × (Int × List ((Int × (Int × Int))))))) : Option (Bool) :=
  bif (decide (x.2.1 < (0 : Int))) then
    some false
  else
    ((F_waits_Right x.2.2)).bind fun r4 =>
    bif (Bool.not r4) then
      some false
    else
      bif (x.1 == (1 : Int)) then
        ((F_waits_Drop (x.2.2, x.2.1))).bind fun r5 =>
        some ((((List.length r5.1) : Nat) : Int) == (((List.length x.2.2) : Nat) : Int))
      else
        bif (x.1 == (0 : Int)) then
          bif (x.2.1 == (0 : Int)) then
            some ((((List.length x.2.2) : Nat) : Int) == (0 : Int))
          else
            some false
        else
          bif (x.1 == (2 : Int)) then
            bif (x.2.1 == (0 : Int)) then
              some ((((List.length x.2.2) : Nat) : Int) == (0 : Int))
            else
              some false
          else
            some false
noncomputable def cx_once_Right : Ctx := { tb := mkTb T2.tbl, fx := [(47, [], Spec.shp si_waits_Right so_waits_Right F_waits_Right), (23, [], Spec.shp si_waits_Drop so_waits_Drop F_waits_Drop)], sum := [], nt := 44, pin := 0, nr := true, ys := [] }
theorem F_once_Right_ok : Sound Try.prog 54 (Spec.shp si_once_Right so_once_Right F_once_Right) :=
  Sound.shp (C := cx_once_Right) (fn := Try.f54) (by kernel_rfl) (c := bodyOf Try.f54) (by kernel_rfl) (by decide) (ctxOK mixed tbl_ok rfl ⟨F_waits_Right_ok, F_waits_Drop_ok, trivial⟩ trivial) (SumOK.of trivial) (by kernel_rfl) si_once_Right so_once_Right rfl (by decide) (by decide) rfl (by decide) rfl F_once_Right (fun x => by kernel_rfl)
abbrev si_once_End : Shape := { sl := [(0, (.hole (.pair (.int .i64) (.pair (.int .i64) (.slice (.pair (.int .i64) (.pair (.int .i64) (.int .i64)))))))), (1, (.hole (.int .i64)))], bl := [], ts := [(.pair (.int .i64) (.pair (.int .i64) (.slice (.pair (.int .i64) (.pair (.int .i64) (.int .i64)))))), (.int .i64)], pin := 0 }
abbrev so_once_End : Shape := { sl := [(0, (.hole (.pair (.int .i64) (.pair (.int .i64) (.slice (.pair (.int .i64) (.pair (.int .i64) (.int .i64)))))))), (1, (.hole (.slice (.pair (.int .i64) (.pair (.int .i64) (.int .i64)))))), (2, (.hole (.int .i64)))], bl := [], ts := [(.pair (.int .i64) (.pair (.int .i64) (.slice (.pair (.int .i64) (.pair (.int .i64) (.int .i64)))))), (.slice (.pair (.int .i64) (.pair (.int .i64) (.int .i64)))), (.int .i64)], pin := 0 }
noncomputable def F_once_End (x : ((Int × (Int × List ((Int × (Int × Int))))) × Int)) : Option ((Int × (Int × List ((Int × (Int × Int))))) × List ((Int × (Int × Int))) × Int) :=
  ((F_once_Right x.1)).bind fun r3 =>
  bif (Bool.not r3) then
    some (((0 : Int), ((0 : Int), ([] : List (Int × (Int × Int))))), (([] : List (Int × (Int × Int))), (1 : Int)))
  else
    bif (decide (x.2 < (0 : Int))) then
      some (((0 : Int), ((0 : Int), ([] : List (Int × (Int × Int))))), (([] : List (Int × (Int × Int))), (1 : Int)))
    else
      bif (x.1.1 != (1 : Int)) then
        some (((0 : Int), ((0 : Int), ([] : List (Int × (Int × Int))))), (([] : List (Int × (Int × Int))), (6 : Int)))
      else
        bif (x.1.2.1 != x.2) then
          some (((0 : Int), ((0 : Int), ([] : List (Int × (Int × Int))))), (([] : List (Int × (Int × Int))), (6 : Int)))
        else
          some (((2 : Int), ((0 : Int), ([] : List (Int × (Int × Int))))), (x.1.2.2, (0 : Int)))
noncomputable def cx_once_End : Ctx := { tb := mkTb T2.tbl, fx := [(54, [], Spec.shp si_once_Right so_once_Right F_once_Right)], sum := [], nt := 30, pin := 0, nr := true, ys := [] }
theorem F_once_End_ok : Sound Try.prog 52 (Spec.shp si_once_End so_once_End F_once_End) :=
  Sound.shp (C := cx_once_End) (fn := Try.f52) (by kernel_rfl) (c := bodyOf Try.f52) (by kernel_rfl) (by decide) (ctxOK mixed tbl_ok rfl ⟨F_once_Right_ok, trivial⟩ trivial) (SumOK.of trivial) (by kernel_rfl) si_once_End so_once_End rfl (by decide) (by decide) rfl (by decide) rfl F_once_End (fun x => by kernel_rfl)
abbrev si_once_begin : Shape := { sl := [(0, (.hole (.pair (.int .i64) (.pair (.int .i64) (.slice (.pair (.int .i64) (.pair (.int .i64) (.int .i64)))))))), (1, (.hole (.pair (.int .i64) (.pair (.int .i64) (.int .i64)))))], bl := [], ts := [(.pair (.int .i64) (.pair (.int .i64) (.slice (.pair (.int .i64) (.pair (.int .i64) (.int .i64)))))), (.pair (.int .i64) (.pair (.int .i64) (.int .i64)))], pin := 0 }
abbrev so_once_begin : Shape := { sl := [(0, (.hole (.pair (.int .i64) (.pair (.int .i64) (.slice (.pair (.int .i64) (.pair (.int .i64) (.int .i64)))))))), (1, (.hole (.int .i64))), (2, (.hole (.int .i64)))], bl := [], ts := [(.pair (.int .i64) (.pair (.int .i64) (.slice (.pair (.int .i64) (.pair (.int .i64) (.int .i64)))))), (.int .i64), (.int .i64)], pin := 0 }
noncomputable def F_once_begin (x : ((Int × (Int × List ((Int × (Int × Int))))) × (Int × (Int × Int)))) : Option ((Int × (Int × List ((Int × (Int × Int))))) × Int × Int) :=
  some (((1 : Int), (x.2.1, ([] : List (Int × (Int × Int))))), ((0 : Int), (0 : Int)))
noncomputable def cx_once_begin : Ctx := { tb := mkTb T2.tbl, fx := [], sum := [], nt := 10, pin := 0, nr := true, ys := [] }
theorem F_once_begin_ok : Sound Try.prog 72 (Spec.shp si_once_begin so_once_begin F_once_begin) :=
  Sound.shp (C := cx_once_begin) (fn := Try.f72) (by kernel_rfl) (c := bodyOf Try.f72) (by kernel_rfl) (by decide) (ctxOK mixed tbl_ok rfl trivial trivial) (SumOK.of trivial) (by kernel_rfl) si_once_begin so_once_begin rfl (by decide) (by decide) rfl (by decide) rfl F_once_begin (fun x => by kernel_rfl)
abbrev si_once_queue : Shape := { sl := [(0, (.hole (.pair (.int .i64) (.pair (.int .i64) (.slice (.pair (.int .i64) (.pair (.int .i64) (.int .i64)))))))), (1, (.hole (.pair (.int .i64) (.pair (.int .i64) (.int .i64)))))], bl := [], ts := [(.pair (.int .i64) (.pair (.int .i64) (.slice (.pair (.int .i64) (.pair (.int .i64) (.int .i64)))))), (.pair (.int .i64) (.pair (.int .i64) (.int .i64)))], pin := 0 }
abbrev so_once_queue : Shape := { sl := [(0, (.hole (.pair (.int .i64) (.pair (.int .i64) (.slice (.pair (.int .i64) (.pair (.int .i64) (.int .i64)))))))), (1, (.hole (.int .i64))), (2, (.hole (.int .i64)))], bl := [], ts := [(.pair (.int .i64) (.pair (.int .i64) (.slice (.pair (.int .i64) (.pair (.int .i64) (.int .i64)))))), (.int .i64), (.int .i64)], pin := 0 }
noncomputable def F_once_queue (x : ((Int × (Int × List ((Int × (Int × Int))))) × (Int × (Int × Int)))) : Option ((Int × (Int × List ((Int × (Int × Int))))) × Int × Int) :=
  bif (x.1.2.1 == x.2.1) then
    some (((0 : Int), ((0 : Int), ([] : List (Int × (Int × Int))))), ((0 : Int), (6 : Int)))
  else
    ((F_waits_Push (x.1.2.2, x.2))).bind fun r5 =>
    bif (r5.2 != (0 : Int)) then
      some (((0 : Int), ((0 : Int), ([] : List (Int × (Int × Int))))), ((0 : Int), r5.2))
    else
      some ((x.1.1, (x.1.2.1, r5.1)), ((1 : Int), (0 : Int)))
noncomputable def cx_once_queue : Ctx := { tb := mkTb T2.tbl, fx := [(25, [], Spec.shp si_waits_Push so_waits_Push F_waits_Push)], sum := [], nt := 29, pin := 0, nr := true, ys := [] }
theorem F_once_queue_ok : Sound Try.prog 73 (Spec.shp si_once_queue so_once_queue F_once_queue) :=
  Sound.shp (C := cx_once_queue) (fn := Try.f73) (by kernel_rfl) (c := bodyOf Try.f73) (by kernel_rfl) (by decide) (ctxOK mixed tbl_ok rfl ⟨F_waits_Push_ok, trivial⟩ trivial) (SumOK.of trivial) (by kernel_rfl) si_once_queue so_once_queue rfl (by decide) (by decide) rfl (by decide) rfl F_once_queue (fun x => by kernel_rfl)
abbrev si_once_pass : Shape := { sl := [(0, (.hole (.pair (.int .i64) (.pair (.int .i64) (.slice (.pair (.int .i64) (.pair (.int .i64) (.int .i64)))))))), (1, (.hole (.pair (.int .i64) (.pair (.int .i64) (.int .i64)))))], bl := [], ts := [(.pair (.int .i64) (.pair (.int .i64) (.slice (.pair (.int .i64) (.pair (.int .i64) (.int .i64)))))), (.pair (.int .i64) (.pair (.int .i64) (.int .i64)))], pin := 0 }
abbrev so_once_pass : Shape := { sl := [(0, (.hole (.pair (.int .i64) (.pair (.int .i64) (.slice (.pair (.int .i64) (.pair (.int .i64) (.int .i64)))))))), (1, (.hole (.int .i64))), (2, (.hole (.int .i64)))], bl := [], ts := [(.pair (.int .i64) (.pair (.int .i64) (.slice (.pair (.int .i64) (.pair (.int .i64) (.int .i64)))))), (.int .i64), (.int .i64)], pin := 0 }
noncomputable def F_once_pass (x : ((Int × (Int × List ((Int × (Int × Int))))) × (Int × (Int × Int)))) : Option ((Int × (Int × List ((Int × (Int × Int))))) × Int × Int) :=
  some (x.1, ((2 : Int), (0 : Int)))
noncomputable def cx_once_pass : Ctx := { tb := mkTb T2.tbl, fx := [], sum := [], nt := 8, pin := 0, nr := true, ys := [] }
theorem F_once_pass_ok : Sound Try.prog 74 (Spec.shp si_once_pass so_once_pass F_once_pass) :=
  Sound.shp (C := cx_once_pass) (fn := Try.f74) (by kernel_rfl) (c := bodyOf Try.f74) (by kernel_rfl) (by decide) (ctxOK mixed tbl_ok rfl trivial trivial) (SumOK.of trivial) (by kernel_rfl) si_once_pass so_once_pass rfl (by decide) (by decide) rfl (by decide) rfl F_once_pass (fun x => by kernel_rfl)
abbrev si_once_Do : Shape := { sl := [(0, (.hole (.pair (.int .i64) (.pair (.int .i64) (.slice (.pair (.int .i64) (.pair (.int .i64) (.int .i64)))))))), (1, (.hole (.pair (.int .i64) (.pair (.int .i64) (.int .i64)))))], bl := [], ts := [(.pair (.int .i64) (.pair (.int .i64) (.slice (.pair (.int .i64) (.pair (.int .i64) (.int .i64)))))), (.pair (.int .i64) (.pair (.int .i64) (.int .i64)))], pin := 0 }
abbrev so_once_Do : Shape := { sl := [(0, (.hole (.pair (.int .i64) (.pair (.int .i64) (.slice (.pair (.int .i64) (.pair (.int .i64) (.int .i64)))))))), (1, (.hole (.int .i64))), (2, (.hole (.int .i64)))], bl := [], ts := [(.pair (.int .i64) (.pair (.int .i64) (.slice (.pair (.int .i64) (.pair (.int .i64) (.int .i64)))))), (.int .i64), (.int .i64)], pin := 0 }
noncomputable def F_once_Do (x : ((Int × (Int × List ((Int × (Int × Int))))) × (Int × (Int × Int)))) : Option ((Int × (Int × List ((Int × (Int × Int))))) × Int × Int) :=
  ((F_once_Right x.1)).bind fun r3 =>
  bif (Bool.not r3) then
    some (((0 : Int), ((0 : Int), ([] : List (Int × (Int × Int))))), ((0 : Int), (1 : Int)))
  else
    bif (decide (x.2.1 < (0 : Int))) then
      some (((0 : Int), ((0 : Int), ([] : List (Int × (Int × Int))))), ((0 : Int), (1 : Int)))
    else
      bif (decide (x.2.2.1 < (0 : Int))) then
        some (((0 : Int), ((0 : Int), ([] : List (Int × (Int × Int))))), ((0 : Int), (1 : Int)))
      else
        bif (decide (x.2.2.2 < (0 : Int))) then
          some (((0 : Int), ((0 : Int), ([] : List (Int × (Int × Int))))), ((0 : Int), (1 : Int)))
        else
          bif (x.1.1 == (((0 : Nat) : Nat) : Int)) then
            ((F_once_begin (x.1, x.2))).bind fun r4 =>
            some (r4.1, (r4.2.1, r4.2.2))
          else
            bif (x.1.1 == ((((0 : Nat) + (1 : Nat)) : Nat) : Int)) then
              ((F_once_queue (x.1, x.2))).bind fun r4 =>
              some (r4.1, (r4.2.1, r4.2.2))
            else
              bif (x.1.1 == (((((0 : Nat) + (1 : Nat)) + (1 : Nat)) : Nat) : Int)) then
                ((F_once_pass (x.1, x.2))).bind fun r4 =>
                some (r4.1, (r4.2.1, r4.2.2))
              else
                none
noncomputable def cx_once_Do : Ctx := { tb := mkTb T2.tbl, fx := [(54, [], Spec.shp si_once_Right so_once_Right F_once_Right), (72, [], Spec.shp si_once_begin so_once_begin F_once_begin), (73, [], Spec.shp si_once_queue so_once_queue F_once_queue), (74, [], Spec.shp si_once_pass so_once_pass F_once_pass)], sum := [], nt := 42, pin := 0, nr := true, ys := [] }
theorem F_once_Do_ok : Sound Try.prog 51 (Spec.shp si_once_Do so_once_Do F_once_Do) :=
  Sound.shp (C := cx_once_Do) (fn := Try.f51) (by kernel_rfl) (c := bodyOf Try.f51) (by kernel_rfl) (by decide) (ctxOK mixed tbl_ok rfl ⟨F_once_Right_ok, F_once_begin_ok, F_once_queue_ok, F_once_pass_ok, trivial⟩ trivial) (SumOK.of trivial) (by kernel_rfl) si_once_Do so_once_Do rfl (by decide) (by decide) rfl (by decide) rfl F_once_Do (fun x => by kernel_rfl)
abbrev sh_plaitlaw11_OnceIs_17v3 : Shape := { sl := [(3, (.ptr 0 [])), (4, (.hole (.int .i64))), (6, (.hole (.int .i64))), (11, (.ptr 1 [])), (12, (.hole (.slice (.pair (.int .i64) (.pair (.int .i64) (.int .i64)))))), (26, (.hole (.slice (.int .i64)))), (27, (.hole (.int .i64))), (28, (.hole (.int .i64))), (73, (.sl 2)), (74, (.hole (.int .i64))), (75, (.hole (.int .i64)))], bl := [.var (.hole (.pair (.int .i64) (.pair (.int .i64) (.slice (.pair (.int .i64) (.pair (.int .i64) (.int .i64))))))), .var (.hole (.pair (.int .i64) (.pair (.int .i64) (.slice (.pair (.int .i64) (.pair (.int .i64) (.int .i64))))))), .row (.int .i64)], ts := [(.int .i64), (.int .i64), (.slice (.pair (.int .i64) (.pair (.int .i64) (.int .i64)))), (.slice (.int .i64)), (.int .i64), (.int .i64), (.int .i64), (.int .i64), (.pair (.int .i64) (.pair (.int .i64) (.slice (.pair (.int .i64) (.pair (.int .i64) (.int .i64)))))), (.pair (.int .i64) (.pair (.int .i64) (.slice (.pair (.int .i64) (.pair (.int .i64) (.int .i64)))))), (.slice (.int .i64))], pin := 0 }
abbrev es_plaitlaw11_OnceIs_17v3 : List (ETag × Shape) := [(.ret, { sl := [(2, (.hole .bool))], bl := [], ts := [.bool], pin := 0 }), (.exit 2, { sl := [(3, (.ptr 0 [])), (4, (.hole (.int .i64))), (6, (.hole (.int .i64))), (11, (.ptr 1 [])), (26, (.hole (.slice (.int .i64)))), (27, (.hole (.int .i64))), (28, (.hole (.int .i64)))], bl := [.var (.hole (.pair (.int .i64) (.pair (.int .i64) (.slice (.pair (.int .i64) (.pair (.int .i64) (.int .i64))))))), .var (.hole (.pair (.int .i64) (.pair (.int .i64) (.slice (.pair (.int .i64) (.pair (.int .i64) (.int .i64)))))))], ts := [(.int .i64), (.int .i64), (.slice (.int .i64)), (.int .i64), (.int .i64), (.pair (.int .i64) (.pair (.int .i64) (.slice (.pair (.int .i64) (.pair (.int .i64) (.int .i64)))))), (.pair (.int .i64) (.pair (.int .i64) (.slice (.pair (.int .i64) (.pair (.int .i64) (.int .i64))))))], pin := 0 })]
noncomputable def L_plaitlaw11_OnceIs_17v3 (x : (Int × Int × List ((Int × (Int × Int))) × List (Int) × Int × Int × Int × Int × (Int × (Int × List ((Int × (Int × Int))))) × (Int × (Int × List ((Int × (Int × Int))))) × List (Int))) : Option ((Int × Int × List ((Int × (Int × Int))) × List (Int) × Int × Int × Int × Int × (Int × (Int × List ((Int × (Int × Int))))) × (Int × (Int × List ((Int × (Int × Int))))) × List (Int)) ⊕ ((Bool) ⊕ (Int × Int × List (Int) × Int × Int × (Int × (Int × List ((Int × (Int × Int))))) × (Int × (Int × List ((Int × (Int × Int)))))))) :=
  bif (decide (x.2.2.2.2.2.2.2.1 < x.2.2.2.2.2.2.1)) then
    bif (Go.Proofs.Ytegbkaaibgdheaa.VX.inb x.2.2.2.2.2.2.2.1 (List.length x.2.2.2.2.2.2.2.2.2.2)) then
      bif (Go.Proofs.Ytegbkaaibgdheaa.VX.inb x.2.2.2.2.2.2.2.1 (List.length x.2.2.1)) then
        bif ((Go.Proofs.Ytegbkaaibgdheaa.VX.getAt ((0 : Int), ((0 : Int), (0 : Int))) x.2.2.1 (Go.Proofs.Ytegbkaaibgdheaa.VX.toN x.2.2.2.2.2.2.2.1)).1 != (Go.Proofs.Ytegbkaaibgdheaa.VX.getAt (0 : Int) x.2.2.2.2.2.2.2.2.2.2 (Go.Proofs.Ytegbkaaibgdheaa.VX.toN x.2.2.2.2.2.2.2.1))) then
          some (.inr (.inl false))
        else
          some (.inl (x.1, (x.2.1, (x.2.2.1, (x.2.2.2.1, (x.2.2.2.2.1, (x.2.2.2.2.2.1, (x.2.2.2.2.2.2.1, ((Go.IntKind.wrap Go.IntKind.i64 (x.2.2.2.2.2.2.2.1 + (1 : Int))), (x.2.2.2.2.2.2.2.2.1, (x.2.2.2.2.2.2.2.2.2.1, x.2.2.2.2.2.2.2.2.2.2)))))))))))
      else
        none
    else
      none
  else
    some (.inr (.inr (x.1, (x.2.1, (x.2.2.2.1, (x.2.2.2.2.1, (x.2.2.2.2.2.1, (x.2.2.2.2.2.2.2.2.1, x.2.2.2.2.2.2.2.2.2.1))))))))
noncomputable def cx_plaitlaw11_OnceIs_17v3 : Ctx := { tb := mkTb T2.tbl, fx := [(52, [], Spec.shp si_once_End so_once_End F_once_End), (51, [], Spec.shp si_once_Do so_once_Do F_once_Do), (54, [], Spec.shp si_once_Right so_once_Right F_once_Right)], sum := [], nt := 163, pin := 0, nr := true, ys := [] }
theorem L_plaitlaw11_OnceIs_17v3_ok : CSound Try.prog ⟨163, 0, true⟩ (.loop (loopOf 17 Try.f12)) (pieceSpec sh_plaitlaw11_OnceIs_17v3 es_plaitlaw11_OnceIs_17v3 (loop L_plaitlaw11_OnceIs_17v3)) :=
  loop_sound (C := cx_plaitlaw11_OnceIs_17v3) (ctxOK mixed tbl_ok rfl ⟨F_once_End_ok, F_once_Do_ok, F_once_Right_ok, trivial⟩ trivial) (SumOK.of trivial) sh_plaitlaw11_OnceIs_17v3 es_plaitlaw11_OnceIs_17v3 rfl rfl L_plaitlaw11_OnceIs_17v3 (fun x => by kernel_rfl)
abbrev sh_plaitlaw11_OnceIs_26v3 : Shape := { sl := [(3, (.ptr 0 [])), (4, (.hole (.int .i64))), (5, (.hole .bool)), (6, (.hole (.int .i64))), (7, (.sl 2)), (10, (.hole (.int .i64))), (16, (.ptr 1 [])), (17, (.hole (.int .i64))), (18, (.hole (.int .i64))), (19, (.hole .bool)), (26, (.hole (.slice (.int .i64)))), (27, (.hole (.int .i64))), (28, (.hole (.int .i64))), (98, (.sl 2)), (99, (.hole (.int .i64))), (100, (.hole (.int .i64)))], bl := [.var (.hole (.pair (.int .i64) (.pair (.int .i64) (.slice (.pair (.int .i64) (.pair (.int .i64) (.int .i64))))))), .var (.hole (.pair (.int .i64) (.pair (.int .i64) (.slice (.pair (.int .i64) (.pair (.int .i64) (.int .i64))))))), .row (.int .i64)], ts := [(.int .i64), .bool, (.int .i64), (.int .i64), (.int .i64), (.int .i64), .bool, (.slice (.int .i64)), (.int .i64), (.int .i64), (.int .i64), (.int .i64), (.pair (.int .i64) (.pair (.int .i64) (.slice (.pair (.int .i64) (.pair (.int .i64) (.int .i64)))))), (.pair (.int .i64) (.pair (.int .i64) (.slice (.pair (.int .i64) (.pair (.int .i64) (.int .i64)))))), (.slice (.int .i64))], pin := 0 }
abbrev es_plaitlaw11_OnceIs_26v3 : List (ETag × Shape) := [(.exit 4, { sl := [(3, (.ptr 0 [])), (4, (.hole (.int .i64))), (5, (.hole .bool)), (6, (.hole (.int .i64))), (7, (.sl 2)), (10, (.hole (.int .i64))), (16, (.ptr 1 [])), (17, (.hole (.int .i64))), (18, (.hole (.int .i64))), (19, (.hole .bool)), (26, (.hole (.slice (.int .i64)))), (27, (.hole (.int .i64))), (28, (.hole (.int .i64)))], bl := [.var (.hole (.pair (.int .i64) (.pair (.int .i64) (.slice (.pair (.int .i64) (.pair (.int .i64) (.int .i64))))))), .var (.hole (.pair (.int .i64) (.pair (.int .i64) (.slice (.pair (.int .i64) (.pair (.int .i64) (.int .i64))))))), .row (.int .i64)], ts := [(.int .i64), .bool, (.int .i64), (.int .i64), (.int .i64), (.int .i64), .bool, (.slice (.int .i64)), (.int .i64), (.int .i64), (.pair (.int .i64) (.pair (.int .i64) (.slice (.pair (.int .i64) (.pair (.int .i64) (.int .i64)))))), (.pair (.int .i64) (.pair (.int .i64) (.slice (.pair (.int .i64) (.pair (.int .i64) (.int .i64)))))), (.slice (.int .i64))], pin := 0 })]
noncomputable def L_plaitlaw11_OnceIs_26v3 (x : (Int × Bool × Int × Int × Int × Int × Bool × List (Int) × Int × Int × Int × Int × (Int × (Int × List ((Int × (Int × Int))))) × (Int × (Int × List ((Int × (Int × Int))))) × List (Int))) : Option ((Int × Bool × Int × Int × Int × Int × Bool × List (Int) × Int × Int × Int × Int × (Int × (Int × List ((Int × (Int × Int))))) × (Int × (Int × List ((Int × (Int × Int))))) × List (Int)) ⊕ ((Int × Bool × Int × Int × Int × Int × Bool × List (Int) × Int × Int × (Int × (Int × List ((Int × (Int × Int))))) × (Int × (Int × List ((Int × (Int × Int))))) × List (Int)))) :=
  bif (decide (x.2.2.2.2.2.2.2.2.2.2.2.1 < x.2.2.2.2.2.2.2.2.2.2.1)) then
    bif (Go.Proofs.Ytegbkaaibgdheaa.VX.inb x.2.2.2.2.2.2.2.2.2.2.2.1 (List.length x.2.2.2.2.2.2.2.2.2.2.2.2.2.2)) then
      bif x.2.2.2.2.2.2.1 then
        some (.inl (x.1, (x.2.1, (x.2.2.1, (x.2.2.2.1, (x.2.2.2.2.1, (x.2.2.2.2.2.1, (true, (x.2.2.2.2.2.2.2.1, (x.2.2.2.2.2.2.2.2.1, (x.2.2.2.2.2.2.2.2.2.1, (x.2.2.2.2.2.2.2.2.2.2.1, ((Go.IntKind.wrap Go.IntKind.i64 (x.2.2.2.2.2.2.2.2.2.2.2.1 + (1 : Int))), (x.2.2.2.2.2.2.2.2.2.2.2.2.1, (x.2.2.2.2.2.2.2.2.2.2.2.2.2.1, x.2.2.2.2.2.2.2.2.2.2.2.2.2.2)))))))))))))))
      else
        some (.inl (x.1, (x.2.1, (x.2.2.1, (x.2.2.2.1, (x.2.2.2.2.1, (x.2.2.2.2.2.1, (((Go.Proofs.Ytegbkaaibgdheaa.VX.getAt (0 : Int) x.2.2.2.2.2.2.2.2.2.2.2.2.2.2 (Go.Proofs.Ytegbkaaibgdheaa.VX.toN x.2.2.2.2.2.2.2.2.2.2.2.1)) == x.2.2.2.1), (x.2.2.2.2.2.2.2.1, (x.2.2.2.2.2.2.2.2.1, (x.2.2.2.2.2.2.2.2.2.1, (x.2.2.2.2.2.2.2.2.2.2.1, ((Go.IntKind.wrap Go.IntKind.i64 (x.2.2.2.2.2.2.2.2.2.2.2.1 + (1 : Int))), (x.2.2.2.2.2.2.2.2.2.2.2.2.1, (x.2.2.2.2.2.2.2.2.2.2.2.2.2.1, x.2.2.2.2.2.2.2.2.2.2.2.2.2.2)))))))))))))))
    else
      none
  else
    some (.inr (x.1, (x.2.1, (x.2.2.1, (x.2.2.2.1, (x.2.2.2.2.1, (x.2.2.2.2.2.1, (x.2.2.2.2.2.2.1, (x.2.2.2.2.2.2.2.1, (x.2.2.2.2.2.2.2.2.1, (x.2.2.2.2.2.2.2.2.2.1, (x.2.2.2.2.2.2.2.2.2.2.2.2.1, (x.2.2.2.2.2.2.2.2.2.2.2.2.2.1, x.2.2.2.2.2.2.2.2.2.2.2.2.2.2)))))))))))))
noncomputable def cx_plaitlaw11_OnceIs_26v3 : Ctx := { tb := mkTb T2.tbl, fx := [(52, [], Spec.shp si_once_End so_once_End F_once_End), (51, [], Spec.shp si_once_Do so_once_Do F_once_Do), (54, [], Spec.shp si_once_Right so_once_Right F_once_Right)], sum := [(0, 17, pieceSpec sh_plaitlaw11_OnceIs_17v3 es_plaitlaw11_OnceIs_17v3 (loop L_plaitlaw11_OnceIs_17v3))], nt := 163, pin := 0, nr := true, ys := [] }
theorem L_plaitlaw11_OnceIs_26v3_ok : CSound Try.prog ⟨163, 0, true⟩ (.loop (loopOf 26 Try.f12)) (pieceSpec sh_plaitlaw11_OnceIs_26v3 es_plaitlaw11_OnceIs_26v3 (loop L_plaitlaw11_OnceIs_26v3)) :=
  loop_sound (C := cx_plaitlaw11_OnceIs_26v3) (ctxOK mixed tbl_ok rfl ⟨F_once_End_ok, F_once_Do_ok, F_once_Right_ok, trivial⟩ trivial) (SumOK.of ⟨(pieces_none (by kernel_rfl)), trivial⟩) sh_plaitlaw11_OnceIs_26v3 es_plaitlaw11_OnceIs_26v3 rfl rfl L_plaitlaw11_OnceIs_26v3 (fun x => by kernel_rfl)
abbrev sh_plaitlaw11_OnceIs_6 : Shape := { sl := [(3, (.ptr 0 [])), (4, (.hole (.int .i64))), (5, (.hole .bool)), (6, (.hole (.int .i64))), (7, (.sl 1)), (26, (.hole (.slice (.int .i64)))), (27, (.hole (.int .i64))), (28, (.hole (.int .i64)))], bl := [.var (.hole (.pair (.int .i64) (.pair (.int .i64) (.slice (.pair (.int .i64) (.pair (.int .i64) (.int .i64))))))), .row (.int .i64)], ts := [(.int .i64), .bool, (.int .i64), (.slice (.int .i64)), (.int .i64), (.int .i64), (.pair (.int .i64) (.pair (.int .i64) (.slice (.pair (.int .i64) (.pair (.int .i64) (.int .i64)))))), (.slice (.int .i64))], pin := 0 }
abbrev es_plaitlaw11_OnceIs_6 : List (ETag × Shape) := [(.ret, { sl := [(2, (.hole .bool))], bl := [], ts := [.bool], pin := 0 }), (.exit 0, { sl := [], bl := [], ts := [], pin := 0 })]
noncomputable def L_plaitlaw11_OnceIs_6 (x : (Int × Bool × Int × List (Int) × Int × Int × (Int × (Int × List ((Int × (Int × Int))))) × List (Int))) : Option ((Int × Bool × Int × List (Int) × Int × Int × (Int × (Int × List ((Int × (Int × Int))))) × List (Int)) ⊕ ((Bool) ⊕ Unit)) :=
  bif (decide (x.2.2.2.2.2.1 < x.2.2.2.2.1)) then
    bif (Go.Proofs.Ytegbkaaibgdheaa.VX.inb x.2.2.2.2.2.1 (List.length x.2.2.2.1)) then
      bif ((Int.tmod (Go.Proofs.Ytegbkaaibgdheaa.VX.getAt (0 : Int) x.2.2.2.1 (Go.Proofs.Ytegbkaaibgdheaa.VX.toN x.2.2.2.2.2.1)) (2 : Int)) != (0 : Int)) then
        ((F_once_End (x.2.2.2.2.2.2.1, (Int.tmod (Go.IntKind.wrap Go.IntKind.i64 ((Int.tmod (Go.IntKind.wrap Go.IntKind.i64 (Int.tdiv (Go.Proofs.Ytegbkaaibgdheaa.VX.getAt (0 : Int) x.2.2.2.1 (Go.Proofs.Ytegbkaaibgdheaa.VX.toN x.2.2.2.2.2.1)) (2 : Int))) (9 : Int)) + (9 : Int))) (9 : Int))))).bind fun r2 =>
        bif (x.1 == (Int.tmod (Go.IntKind.wrap Go.IntKind.i64 ((Int.tmod (Go.IntKind.wrap Go.IntKind.i64 (Int.tdiv (Go.Proofs.Ytegbkaaibgdheaa.VX.getAt (0 : Int) x.2.2.2.1 (Go.Proofs.Ytegbkaaibgdheaa.VX.toN x.2.2.2.2.2.1)) (2 : Int))) (9 : Int)) + (9 : Int))) (9 : Int))) then
          bif (Bool.not (Go.Proofs.Ytegbkaaibgdheaa.VX.Ty.beq Go.Proofs.Ytegbkaaibgdheaa.VX.Ty.bool (r2.2.2 == (0 : Int)) (Bool.not x.2.1))) then
            some (.inr (.inl false))
          else
            bif (r2.2.2 != (0 : Int)) then
              bif (r2.2.2 != (6 : Int)) then
                some (.inr (.inl false))
              else
                bif (r2.2.2 == (0 : Int)) then
                  bif ((((List.length r2.2.1) : Nat) : Int) != (((List.length x.2.2.2.2.2.2.2) : Nat) : Int)) then
                    some (.inr (.inl false))
                  else
                    ((loop L_plaitlaw11_OnceIs_17v3 (x.1, (x.2.2.1, (r2.2.1, (x.2.2.2.1, (x.2.2.2.2.1, (x.2.2.2.2.2.1, ((((List.length x.2.2.2.2.2.2.2) : Nat) : Int), ((0 : Int), (x.2.2.2.2.2.2.1, (r2.1, x.2.2.2.2.2.2.2)))))))))))).bind fun r3 =>
                    match r3 with
                    | .inl y4 =>
                      some (.inr (.inl y4))
                    | .inr y4 =>
                      some (.inl (y4.1, (true, (y4.2.1, (y4.2.2.1, (y4.2.2.2.1, ((Go.IntKind.wrap Go.IntKind.i64 (y4.2.2.2.2.1 + (1 : Int))), (y4.2.2.2.2.2.2, ([] : List Int)))))))))
                else
                  some (.inl (x.1, (x.2.1, (x.2.2.1, (x.2.2.2.1, (x.2.2.2.2.1, ((Go.IntKind.wrap Go.IntKind.i64 (x.2.2.2.2.2.1 + (1 : Int))), (x.2.2.2.2.2.2.1, x.2.2.2.2.2.2.2))))))))
            else
              bif (r2.2.2 == (0 : Int)) then
                bif ((((List.length r2.2.1) : Nat) : Int) != (((List.length x.2.2.2.2.2.2.2) : Nat) : Int)) then
                  some (.inr (.inl false))
                else
                  ((loop L_plaitlaw11_OnceIs_17v3 (x.1, (x.2.2.1, (r2.2.1, (x.2.2.2.1, (x.2.2.2.2.1, (x.2.2.2.2.2.1, ((((List.length x.2.2.2.2.2.2.2) : Nat) : Int), ((0 : Int), (x.2.2.2.2.2.2.1, (r2.1, x.2.2.2.2.2.2.2)))))))))))).bind fun r3 =>
                  match r3 with
                  | .inl y4 =>
                    some (.inr (.inl y4))
                  | .inr y4 =>
                    some (.inl (y4.1, (true, (y4.2.1, (y4.2.2.1, (y4.2.2.2.1, ((Go.IntKind.wrap Go.IntKind.i64 (y4.2.2.2.2.1 + (1 : Int))), (y4.2.2.2.2.2.2, ([] : List Int)))))))))
              else
                some (.inl (x.1, (x.2.1, (x.2.2.1, (x.2.2.2.1, (x.2.2.2.2.1, ((Go.IntKind.wrap Go.IntKind.i64 (x.2.2.2.2.2.1 + (1 : Int))), (x.2.2.2.2.2.2.1, x.2.2.2.2.2.2.2))))))))
        else
          bif (Bool.not (Go.Proofs.Ytegbkaaibgdheaa.VX.Ty.beq Go.Proofs.Ytegbkaaibgdheaa.VX.Ty.bool (r2.2.2 == (0 : Int)) false)) then
            some (.inr (.inl false))
          else
            bif (r2.2.2 != (0 : Int)) then
              bif (r2.2.2 != (6 : Int)) then
                some (.inr (.inl false))
              else
                bif (r2.2.2 == (0 : Int)) then
                  bif ((((List.length r2.2.1) : Nat) : Int) != (((List.length x.2.2.2.2.2.2.2) : Nat) : Int)) then
                    some (.inr (.inl false))
                  else
                    ((loop L_plaitlaw11_OnceIs_17v3 (x.1, (x.2.2.1, (r2.2.1, (x.2.2.2.1, (x.2.2.2.2.1, (x.2.2.2.2.2.1, ((((List.length x.2.2.2.2.2.2.2) : Nat) : Int), ((0 : Int), (x.2.2.2.2.2.2.1, (r2.1, x.2.2.2.2.2.2.2)))))))))))).bind fun r3 =>
                    match r3 with
                    | .inl y4 =>
                      some (.inr (.inl y4))
                    | .inr y4 =>
                      some (.inl (y4.1, (true, (y4.2.1, (y4.2.2.1, (y4.2.2.2.1, ((Go.IntKind.wrap Go.IntKind.i64 (y4.2.2.2.2.1 + (1 : Int))), (y4.2.2.2.2.2.2, ([] : List Int)))))))))
                else
                  some (.inl (x.1, (x.2.1, (x.2.2.1, (x.2.2.2.1, (x.2.2.2.2.1, ((Go.IntKind.wrap Go.IntKind.i64 (x.2.2.2.2.2.1 + (1 : Int))), (x.2.2.2.2.2.2.1, x.2.2.2.2.2.2.2))))))))
            else
              bif (r2.2.2 == (0 : Int)) then
                bif ((((List.length r2.2.1) : Nat) : Int) != (((List.length x.2.2.2.2.2.2.2) : Nat) : Int)) then
                  some (.inr (.inl false))
                else
                  ((loop L_plaitlaw11_OnceIs_17v3 (x.1, (x.2.2.1, (r2.2.1, (x.2.2.2.1, (x.2.2.2.2.1, (x.2.2.2.2.2.1, ((((List.length x.2.2.2.2.2.2.2) : Nat) : Int), ((0 : Int), (x.2.2.2.2.2.2.1, (r2.1, x.2.2.2.2.2.2.2)))))))))))).bind fun r3 =>
                  match r3 with
                  | .inl y4 =>
                    some (.inr (.inl y4))
                  | .inr y4 =>
                    some (.inl (y4.1, (true, (y4.2.1, (y4.2.2.1, (y4.2.2.2.1, ((Go.IntKind.wrap Go.IntKind.i64 (y4.2.2.2.2.1 + (1 : Int))), (y4.2.2.2.2.2.2, ([] : List Int)))))))))
              else
                some (.inl (x.1, (x.2.1, (x.2.2.1, (x.2.2.2.1, (x.2.2.2.2.1, ((Go.IntKind.wrap Go.IntKind.i64 (x.2.2.2.2.2.1 + (1 : Int))), (x.2.2.2.2.2.2.1, x.2.2.2.2.2.2.2))))))))
      else
        ((F_once_Do (x.2.2.2.2.2.2.1, ((Int.tmod (Go.IntKind.wrap Go.IntKind.i64 ((Int.tmod (Go.IntKind.wrap Go.IntKind.i64 (Int.tdiv (Go.Proofs.Ytegbkaaibgdheaa.VX.getAt (0 : Int) x.2.2.2.1 (Go.Proofs.Ytegbkaaibgdheaa.VX.toN x.2.2.2.2.2.1)) (2 : Int))) (9 : Int)) + (9 : Int))) (9 : Int)), ((0 : Int), x.2.2.2.2.2.1))))).bind fun r2 =>
        ((loop L_plaitlaw11_OnceIs_26v3 (x.1, (x.2.1, (x.2.2.1, ((Int.tmod (Go.IntKind.wrap Go.IntKind.i64 ((Int.tmod (Go.IntKind.wrap Go.IntKind.i64 (Int.tdiv (Go.Proofs.Ytegbkaaibgdheaa.VX.getAt (0 : Int) x.2.2.2.1 (Go.Proofs.Ytegbkaaibgdheaa.VX.toN x.2.2.2.2.2.1)) (2 : Int))) (9 : Int)) + (9 : Int))) (9 : Int)), (r2.2.1, (r2.2.2, (false, (x.2.2.2.1, (x.2.2.2.2.1, (x.2.2.2.2.2.1, ((((List.length x.2.2.2.2.2.2.2) : Nat) : Int), ((0 : Int), (x.2.2.2.2.2.2.1, (r2.1, x.2.2.2.2.2.2.2)))))))))))))))).bind fun r3 =>
        bif r3.2.1 then
          bif (r3.2.2.2.2.2.1 != (0 : Int)) then
            some (.inr (.inl false))
          else
            bif (r3.2.2.2.2.1 != (2 : Int)) then
              some (.inr (.inl false))
            else
              bif (r3.2.2.2.2.2.1 == (0 : Int)) then
                ((F_once_Right r3.2.2.2.2.2.2.2.2.2.2.2.1)).bind fun r4 =>
                bif (Bool.not r4) then
                  some (.inr (.inl false))
                else
                  bif (decide (r3.2.2.1 > (1 : Int))) then
                    some (.inr (.inl false))
                  else
                    some (.inl (r3.1, (r3.2.1, (r3.2.2.1, (r3.2.2.2.2.2.2.2.1, (r3.2.2.2.2.2.2.2.2.1, ((Go.IntKind.wrap Go.IntKind.i64 (r3.2.2.2.2.2.2.2.2.2.1 + (1 : Int))), (r3.2.2.2.2.2.2.2.2.2.2.2.1, r3.2.2.2.2.2.2.2.2.2.2.2.2))))))))
              else
                ((F_once_Right r3.2.2.2.2.2.2.2.2.2.2.1)).bind fun r4 =>
                bif (Bool.not r4) then
                  some (.inr (.inl false))
                else
                  bif (decide (r3.2.2.1 > (1 : Int))) then
                    some (.inr (.inl false))
                  else
                    some (.inl (r3.1, (r3.2.1, (r3.2.2.1, (r3.2.2.2.2.2.2.2.1, (r3.2.2.2.2.2.2.2.2.1, ((Go.IntKind.wrap Go.IntKind.i64 (r3.2.2.2.2.2.2.2.2.2.1 + (1 : Int))), (r3.2.2.2.2.2.2.2.2.2.2.1, r3.2.2.2.2.2.2.2.2.2.2.2.2))))))))
        else
          bif (decide (r3.1 < (0 : Int))) then
            bif (r3.2.2.2.2.2.1 != (0 : Int)) then
              some (.inr (.inl false))
            else
              bif (r3.2.2.2.2.1 != (0 : Int)) then
                some (.inr (.inl false))
              else
                bif (r3.2.2.2.2.2.1 == (0 : Int)) then
                  ((F_once_Right r3.2.2.2.2.2.2.2.2.2.2.2.1)).bind fun r4 =>
                  bif (Bool.not r4) then
                    some (.inr (.inl false))
                  else
                    bif (decide ((Go.IntKind.wrap Go.IntKind.i64 (r3.2.2.1 + (1 : Int))) > (1 : Int))) then
                      some (.inr (.inl false))
                    else
                      some (.inl (r3.2.2.2.1, (r3.2.1, ((Go.IntKind.wrap Go.IntKind.i64 (r3.2.2.1 + (1 : Int))), (r3.2.2.2.2.2.2.2.1, (r3.2.2.2.2.2.2.2.2.1, ((Go.IntKind.wrap Go.IntKind.i64 (r3.2.2.2.2.2.2.2.2.2.1 + (1 : Int))), (r3.2.2.2.2.2.2.2.2.2.2.2.1, r3.2.2.2.2.2.2.2.2.2.2.2.2))))))))
                else
                  ((F_once_Right r3.2.2.2.2.2.2.2.2.2.2.1)).bind fun r4 =>
                  bif (Bool.not r4) then
                    some (.inr (.inl false))
                  else
                    bif (decide ((Go.IntKind.wrap Go.IntKind.i64 (r3.2.2.1 + (1 : Int))) > (1 : Int))) then
                      some (.inr (.inl false))
                    else
                      some (.inl (r3.2.2.2.1, (r3.2.1, ((Go.IntKind.wrap Go.IntKind.i64 (r3.2.2.1 + (1 : Int))), (r3.2.2.2.2.2.2.2.1, (r3.2.2.2.2.2.2.2.2.1, ((Go.IntKind.wrap Go.IntKind.i64 (r3.2.2.2.2.2.2.2.2.2.1 + (1 : Int))), (r3.2.2.2.2.2.2.2.2.2.2.1, r3.2.2.2.2.2.2.2.2.2.2.2.2))))))))
          else
            bif (r3.1 == r3.2.2.2.1) then
              bif (r3.2.2.2.2.2.1 != (6 : Int)) then
                some (.inr (.inl false))
              else
                bif (r3.2.2.2.2.2.1 == (0 : Int)) then
                  ((F_once_Right r3.2.2.2.2.2.2.2.2.2.2.2.1)).bind fun r4 =>
                  bif (Bool.not r4) then
                    some (.inr (.inl false))
                  else
                    bif (decide (r3.2.2.1 > (1 : Int))) then
                      some (.inr (.inl false))
                    else
                      some (.inl (r3.1, (r3.2.1, (r3.2.2.1, (r3.2.2.2.2.2.2.2.1, (r3.2.2.2.2.2.2.2.2.1, ((Go.IntKind.wrap Go.IntKind.i64 (r3.2.2.2.2.2.2.2.2.2.1 + (1 : Int))), (r3.2.2.2.2.2.2.2.2.2.2.2.1, r3.2.2.2.2.2.2.2.2.2.2.2.2))))))))
                else
                  ((F_once_Right r3.2.2.2.2.2.2.2.2.2.2.1)).bind fun r4 =>
                  bif (Bool.not r4) then
                    some (.inr (.inl false))
                  else
                    bif (decide (r3.2.2.1 > (1 : Int))) then
                      some (.inr (.inl false))
                    else
                      some (.inl (r3.1, (r3.2.1, (r3.2.2.1, (r3.2.2.2.2.2.2.2.1, (r3.2.2.2.2.2.2.2.2.1, ((Go.IntKind.wrap Go.IntKind.i64 (r3.2.2.2.2.2.2.2.2.2.1 + (1 : Int))), (r3.2.2.2.2.2.2.2.2.2.2.1, r3.2.2.2.2.2.2.2.2.2.2.2.2))))))))
            else
              bif r3.2.2.2.2.2.2.1 then
                bif (r3.2.2.2.2.2.1 != (7 : Int)) then
                  some (.inr (.inl false))
                else
                  bif (r3.2.2.2.2.2.1 == (0 : Int)) then
                    ((F_once_Right r3.2.2.2.2.2.2.2.2.2.2.2.1)).bind fun r4 =>
                    bif (Bool.not r4) then
                      some (.inr (.inl false))
                    else
                      bif (decide (r3.2.2.1 > (1 : Int))) then
                        some (.inr (.inl false))
                      else
                        some (.inl (r3.1, (r3.2.1, (r3.2.2.1, (r3.2.2.2.2.2.2.2.1, (r3.2.2.2.2.2.2.2.2.1, ((Go.IntKind.wrap Go.IntKind.i64 (r3.2.2.2.2.2.2.2.2.2.1 + (1 : Int))), (r3.2.2.2.2.2.2.2.2.2.2.2.1, r3.2.2.2.2.2.2.2.2.2.2.2.2))))))))
                  else
                    ((F_once_Right r3.2.2.2.2.2.2.2.2.2.2.1)).bind fun r4 =>
                    bif (Bool.not r4) then
                      some (.inr (.inl false))
                    else
                      bif (decide (r3.2.2.1 > (1 : Int))) then
                        some (.inr (.inl false))
                      else
                        some (.inl (r3.1, (r3.2.1, (r3.2.2.1, (r3.2.2.2.2.2.2.2.1, (r3.2.2.2.2.2.2.2.2.1, ((Go.IntKind.wrap Go.IntKind.i64 (r3.2.2.2.2.2.2.2.2.2.1 + (1 : Int))), (r3.2.2.2.2.2.2.2.2.2.2.1, r3.2.2.2.2.2.2.2.2.2.2.2.2))))))))
              else
                bif (r3.2.2.2.2.2.1 != (0 : Int)) then
                  some (.inr (.inl false))
                else
                  bif (r3.2.2.2.2.1 != (1 : Int)) then
                    some (.inr (.inl false))
                  else
                    bif (Go.Proofs.Ytegbkaaibgdheaa.VX.fits ((List.length r3.2.2.2.2.2.2.2.2.2.2.2.2) + (List.length (r3.2.2.2.1 :: ([] : List Int))))) then
                      bif (r3.2.2.2.2.2.1 == (0 : Int)) then
                        ((F_once_Right r3.2.2.2.2.2.2.2.2.2.2.2.1)).bind fun r4 =>
                        bif (Bool.not r4) then
                          some (.inr (.inl false))
                        else
                          bif (decide (r3.2.2.1 > (1 : Int))) then
                            some (.inr (.inl false))
                          else
                            some (.inl (r3.1, (r3.2.1, (r3.2.2.1, (r3.2.2.2.2.2.2.2.1, (r3.2.2.2.2.2.2.2.2.1, ((Go.IntKind.wrap Go.IntKind.i64 (r3.2.2.2.2.2.2.2.2.2.1 + (1 : Int))), (r3.2.2.2.2.2.2.2.2.2.2.2.1, (r3.2.2.2.2.2.2.2.2.2.2.2.2 ++ (r3.2.2.2.1 :: ([] : List Int)))))))))))
                      else
                        ((F_once_Right r3.2.2.2.2.2.2.2.2.2.2.1)).bind fun r4 =>
                        bif (Bool.not r4) then
                          some (.inr (.inl false))
                        else
                          bif (decide (r3.2.2.1 > (1 : Int))) then
                            some (.inr (.inl false))
                          else
                            some (.inl (r3.1, (r3.2.1, (r3.2.2.1, (r3.2.2.2.2.2.2.2.1, (r3.2.2.2.2.2.2.2.2.1, ((Go.IntKind.wrap Go.IntKind.i64 (r3.2.2.2.2.2.2.2.2.2.1 + (1 : Int))), (r3.2.2.2.2.2.2.2.2.2.2.1, (r3.2.2.2.2.2.2.2.2.2.2.2.2 ++ (r3.2.2.2.1 :: ([] : List Int)))))))))))
                    else
                      none
    else
      none
  else
    some (.inr (.inr ()))
noncomputable def cx_plaitlaw11_OnceIs_6 : Ctx := { tb := mkTb T2.tbl, fx := [(52, [], Spec.shp si_once_End so_once_End F_once_End), (51, [], Spec.shp si_once_Do so_once_Do F_once_Do), (54, [], Spec.shp si_once_Right so_once_Right F_once_Right)], sum := [(0, 17, pieceSpec sh_plaitlaw11_OnceIs_17v3 es_plaitlaw11_OnceIs_17v3 (loop L_plaitlaw11_OnceIs_17v3)), (0, 26, pieceSpec sh_plaitlaw11_OnceIs_26v3 es_plaitlaw11_OnceIs_26v3 (loop L_plaitlaw11_OnceIs_26v3))], nt := 163, pin := 0, nr := true, ys := [] }
theorem L_plaitlaw11_OnceIs_6_ok : CSound Try.prog ⟨163, 0, true⟩ (.loop (loopOf 6 Try.f12)) (pieceSpec sh_plaitlaw11_OnceIs_6 es_plaitlaw11_OnceIs_6 (loop L_plaitlaw11_OnceIs_6)) :=
  loop_sound (C := cx_plaitlaw11_OnceIs_6) (ctxOK mixed tbl_ok rfl ⟨F_once_End_ok, F_once_Do_ok, F_once_Right_ok, trivial⟩ trivial) (SumOK.of ⟨(pieces_one (d := .loop (loopOf 17 Try.f12)) (by kernel_rfl) L_plaitlaw11_OnceIs_17v3_ok), (pieces_one (d := .loop (loopOf 26 Try.f12)) (by kernel_rfl) L_plaitlaw11_OnceIs_26v3_ok), trivial⟩) sh_plaitlaw11_OnceIs_6 es_plaitlaw11_OnceIs_6 rfl rfl L_plaitlaw11_OnceIs_6 (fun x => by kernel_rfl)
abbrev si_plaitlaw11_alive : Shape := { sl := [], bl := [], ts := [], pin := 0 }
abbrev so_plaitlaw11_alive : Shape := { sl := [(0, (.hole .bool))], bl := [], ts := [.bool], pin := 0 }
noncomputable def F_plaitlaw11_alive (x : Unit) : Option (Bool) :=
  ((F_once_Do (((0 : Int), ((0 : Int), ([] : List (Int × (Int × Int))))), ((3 : Int), ((0 : Int), (0 : Int)))))).bind fun r4 =>
  ((F_once_Do (r4.1, ((1 : Int), ((0 : Int), (0 : Int)))))).bind fun r5 =>
  ((F_once_End (r5.1, (3 : Int)))).bind fun r6 =>
  ((F_once_Do (r6.1, ((2 : Int), ((0 : Int), (0 : Int)))))).bind fun r7 =>
  bif (r4.2.2 == (0 : Int)) then
    bif (r5.2.2 == (0 : Int)) then
      bif (r6.2.2 == (0 : Int)) then
        bif (r7.2.2 == (0 : Int)) then
          bif (r4.2.1 == (0 : Int)) then
            bif (r5.2.1 == (1 : Int)) then
              bif (r7.2.1 == (2 : Int)) then
                bif ((((List.length r6.2.1) : Nat) : Int) == (1 : Int)) then
                  bif (Go.Proofs.Ytegbkaaibgdheaa.VX.inb (0 : Int) (List.length r6.2.1)) then
                    some ((Go.Proofs.Ytegbkaaibgdheaa.VX.getAt ((0 : Int), ((0 : Int), (0 : Int))) r6.2.1 (Go.Proofs.Ytegbkaaibgdheaa.VX.toN (0 : Int))).1 == (1 : Int))
                  else
                    none
                else
                  some false
              else
                some false
            else
              some false
          else
            some false
        else
          some false
      else
        some false
    else
      some false
  else
    some false
noncomputable def cx_plaitlaw11_alive : Ctx := { tb := mkTb T2.tbl, fx := [(51, [], Spec.shp si_once_Do so_once_Do F_once_Do), (52, [], Spec.shp si_once_End so_once_End F_once_End)], sum := [], nt := 76, pin := 0, nr := true, ys := [] }
theorem F_plaitlaw11_alive_ok : Sound Try.prog 55 (Spec.shp si_plaitlaw11_alive so_plaitlaw11_alive F_plaitlaw11_alive) :=
  Sound.shp (C := cx_plaitlaw11_alive) (fn := Try.f55) (by kernel_rfl) (c := bodyOf Try.f55) (by kernel_rfl) (by decide) (ctxOK mixed tbl_ok rfl ⟨F_once_Do_ok, F_once_End_ok, trivial⟩ trivial) (SumOK.of trivial) (by kernel_rfl) si_plaitlaw11_alive so_plaitlaw11_alive rfl (by decide) (by decide) rfl (by decide) rfl F_plaitlaw11_alive (fun x => by kernel_rfl)
noncomputable def F_plaitlaw11_OnceIs (x : (List (Int))) : Option (Bool) :=
  bif (Go.Proofs.Ytegbkaaibgdheaa.VX.sub3 (0 : Int) (Min.min (((List.length x) : Nat) : Int) (100 : Int)) (List.length x)) then
    ((loop L_plaitlaw11_OnceIs_6 ((Int.negSucc 0), (false, ((0 : Int), ((Go.Proofs.Ytegbkaaibgdheaa.VX.cut x (Go.Proofs.Ytegbkaaibgdheaa.VX.toN (0 : Int)) ((Go.Proofs.Ytegbkaaibgdheaa.VX.toN (Min.min (((List.length x) : Nat) : Int) (100 : Int))) - (Go.Proofs.Ytegbkaaibgdheaa.VX.toN (0 : Int)))), ((((List.length (Go.Proofs.Ytegbkaaibgdheaa.VX.cut x (Go.Proofs.Ytegbkaaibgdheaa.VX.toN (0 : Int)) ((Go.Proofs.Ytegbkaaibgdheaa.VX.toN (Min.min (((List.length x) : Nat) : Int) (100 : Int))) - (Go.Proofs.Ytegbkaaibgdheaa.VX.toN (0 : Int))))) : Nat) : Int), ((0 : Int), (((0 : Int), ((0 : Int), ([] : List (Int × (Int × Int))))), ([] : List Int)))))))))).bind fun r1 =>
    match r1 with
    | .inl y2 =>
      some y2
    | .inr y2 =>
      ((F_plaitlaw11_alive ())).bind fun r3 =>
      some r3
  else
    none
noncomputable def cx_plaitlaw11_OnceIs : Ctx := { tb := mkTb T2.tbl, fx := [(52, [], Spec.shp si_once_End so_once_End F_once_End), (51, [], Spec.shp si_once_Do so_once_Do F_once_Do), (54, [], Spec.shp si_once_Right so_once_Right F_once_Right), (55, [], Spec.shp si_plaitlaw11_alive so_plaitlaw11_alive F_plaitlaw11_alive)], sum := [(0, 17, pieceSpec sh_plaitlaw11_OnceIs_17v3 es_plaitlaw11_OnceIs_17v3 (loop L_plaitlaw11_OnceIs_17v3)), (0, 26, pieceSpec sh_plaitlaw11_OnceIs_26v3 es_plaitlaw11_OnceIs_26v3 (loop L_plaitlaw11_OnceIs_26v3)), (0, 6, pieceSpec sh_plaitlaw11_OnceIs_6 es_plaitlaw11_OnceIs_6 (loop L_plaitlaw11_OnceIs_6))], nt := 163, pin := 0, nr := true, ys := [] }
theorem F_plaitlaw11_OnceIs_ok : Sound Try.prog 12 (Spec.pure [(.slice (.int .i64))] [.bool] F_plaitlaw11_OnceIs) :=
  Sound.pure (C := cx_plaitlaw11_OnceIs) (fn := Try.f12) (by kernel_rfl) (c := bodyOf Try.f12) (by kernel_rfl) (by decide) (ctxOK mixed tbl_ok rfl ⟨F_once_End_ok, F_once_Do_ok, F_once_Right_ok, F_plaitlaw11_alive_ok, trivial⟩) (SumOK.of ⟨(pieces_one (d := .loop (loopOf 17 Try.f12)) (by kernel_rfl) L_plaitlaw11_OnceIs_17v3_ok), (pieces_one (d := .loop (loopOf 26 Try.f12)) (by kernel_rfl) L_plaitlaw11_OnceIs_26v3_ok), (pieces_one (d := .loop (loopOf 6 Try.f12)) (by kernel_rfl) L_plaitlaw11_OnceIs_6_ok), trivial⟩) (by kernel_rfl) rfl _ _ (by decide) _ (fun x => by kernel_rfl)
abbrev si_plaitlaw11_few : Shape := { sl := [(0, (.hole (.pair (.int .i64) (.pair (.int .i64) (.slice (.pair (.int .i64) (.pair (.int .i64) (.int .i64))))))))], bl := [], ts := [(.pair (.int .i64) (.pair (.int .i64) (.slice (.pair (.int .i64) (.pair (.int .i64) (.int .i64))))))], pin := 0 }
abbrev so_plaitlaw11_few : Shape := { sl := [(0, (.hole (.pair (.int .i64) (.pair (.int .i64) (.slice (.pair (.int .i64) (.pair (.int .i64) (.int .i64))))))))], bl := [], ts := [(.pair (.int .i64) (.pair (.int .i64) (.slice (.pair (.int .i64) (.pair (.int .i64) (.int .i64))))))], pin := 0 }
noncomputable def F_plaitlaw11_few (x : ((Int × (Int × List ((Int × (Int × Int))))))) : Option ((Int × (Int × List ((Int × (Int × Int)))))) :=
  bif (Go.Proofs.Ytegbkaaibgdheaa.VX.sub3 (0 : Int) (Min.min (((List.length x.2.2) : Nat) : Int) (70 : Int)) (List.length x.2.2)) then
    some (x.1, (x.2.1, (Go.Proofs.Ytegbkaaibgdheaa.VX.cut x.2.2 (Go.Proofs.Ytegbkaaibgdheaa.VX.toN (0 : Int)) ((Go.Proofs.Ytegbkaaibgdheaa.VX.toN (Min.min (((List.length x.2.2) : Nat) : Int) (70 : Int))) - (Go.Proofs.Ytegbkaaibgdheaa.VX.toN (0 : Int))))))
  else
    none
noncomputable def cx_plaitlaw11_few : Ctx := { tb := mkTb T2.tbl, fx := [], sum := [], nt := 12, pin := 0, nr := true, ys := [] }
theorem F_plaitlaw11_few_ok : Sound Try.prog 50 (Spec.shp si_plaitlaw11_few so_plaitlaw11_few F_plaitlaw11_few) :=
  Sound.shp (C := cx_plaitlaw11_few) (fn := Try.f50) (by kernel_rfl) (c := bodyOf Try.f50) (by kernel_rfl) (by decide) (ctxOK mixed tbl_ok rfl trivial trivial) (SumOK.of trivial) (by kernel_rfl) si_plaitlaw11_few so_plaitlaw11_few rfl (by decide) (by decide) rfl (by decide) rfl F_plaitlaw11_few (fun x => by kernel_rfl)
abbrev si_plaitref11_Right : Shape := { sl := [(0, (.hole (.pair (.int .i64) (.pair (.int .i64) (.slice (.pair (.int .i64) (.pair (.int .i64) (.int .i64))))))))], bl := [], ts := [(.pair (.int .i64) (.pair (.int .i64) (.slice (.pair (.int .i64) (.pair (.int .i64) (.int .i64))))))], pin := 0 }
abbrev so_plaitref11_Right : Shape := { sl := [(0, (.hole .bool))], bl := [], ts := [.bool], pin := 0 }
noncomputable def F_plaitref11_Right (x : ((Int × (Int × List ((Int × (Int × Int))))))) : Option (Bool) :=
  bif (decide (x.1 < (0 : Int))) then
    some false
  else
    bif (decide (x.1 > (2 : Int))) then
      some false
    else
      bif (decide (x.2.1 < (0 : Int))) then
        some false
      else
        ((F_plaitref05_Right x.2.2)).bind fun r5 =>
        bif (Bool.not r5) then
          some false
        else
          bif (x.1 != (1 : Int)) then
            bif (x.2.1 == (0 : Int)) then
              some ((((List.length x.2.2) : Nat) : Int) == (0 : Int))
            else
              some false
          else
            ((F_plaitref05_Drop (x.2.2, x.2.1))).bind fun r6 =>
            some ((((List.length r6) : Nat) : Int) == (((List.length x.2.2) : Nat) : Int))
noncomputable def cx_plaitref11_Right : Ctx := { tb := mkTb T2.tbl, fx := [(46, [], Spec.shp si_plaitref05_Right so_plaitref05_Right F_plaitref05_Right), (24, [], Spec.shp si_plaitref05_Drop so_plaitref05_Drop F_plaitref05_Drop)], sum := [], nt := 44, pin := 0, nr := true, ys := [] }
theorem F_plaitref11_Right_ok : Sound Try.prog 53 (Spec.shp si_plaitref11_Right so_plaitref11_Right F_plaitref11_Right) :=
  Sound.shp (C := cx_plaitref11_Right) (fn := Try.f53) (by kernel_rfl) (c := bodyOf Try.f53) (by kernel_rfl) (by decide) (ctxOK mixed tbl_ok rfl ⟨F_plaitref05_Right_ok, F_plaitref05_Drop_ok, trivial⟩ trivial) (SumOK.of trivial) (by kernel_rfl) si_plaitref11_Right so_plaitref11_Right rfl (by decide) (by decide) rfl (by decide) rfl F_plaitref11_Right (fun x => by kernel_rfl)
abbrev si_plaitref11_Same : Shape := { sl := [(0, (.hole (.pair (.int .i64) (.pair (.int .i64) (.slice (.pair (.int .i64) (.pair (.int .i64) (.int .i64)))))))), (1, (.hole (.pair (.int .i64) (.pair (.int .i64) (.slice (.pair (.int .i64) (.pair (.int .i64) (.int .i64))))))))], bl := [], ts := [(.pair (.int .i64) (.pair (.int .i64) (.slice (.pair (.int .i64) (.pair (.int .i64) (.int .i64)))))), (.pair (.int .i64) (.pair (.int .i64) (.slice (.pair (.int .i64) (.pair (.int .i64) (.int .i64))))))], pin := 0 }
abbrev so_plaitref11_Same : Shape := { sl := [(0, (.hole .bool))], bl := [], ts := [.bool], pin := 0 }
noncomputable def F_plaitref11_Same (x : ((Int × (Int × List ((Int × (Int × Int))))) × (Int × (Int × List ((Int × (Int × Int))))))) : Option (Bool) :=
  bif (x.1.1 == x.2.1) then
    bif (x.1.2.1 == x.2.2.1) then
      ((F_plaitref05_Same (x.1.2.2, x.2.2.2))).bind fun r8 =>
      some r8
    else
      some false
  else
    some false
noncomputable def cx_plaitref11_Same : Ctx := { tb := mkTb T2.tbl, fx := [(27, [], Spec.shp si_plaitref05_Same so_plaitref05_Same F_plaitref05_Same)], sum := [], nt := 24, pin := 0, nr := true, ys := [] }
theorem F_plaitref11_Same_ok : Sound Try.prog 56 (Spec.shp si_plaitref11_Same so_plaitref11_Same F_plaitref11_Same) :=
  Sound.shp (C := cx_plaitref11_Same) (fn := Try.f56) (by kernel_rfl) (c := bodyOf Try.f56) (by kernel_rfl) (by decide) (ctxOK mixed tbl_ok rfl ⟨F_plaitref05_Same_ok, trivial⟩ trivial) (SumOK.of trivial) (by kernel_rfl) si_plaitref11_Same so_plaitref11_Same rfl (by decide) (by decide) rfl (by decide) rfl F_plaitref11_Same (fun x => by kernel_rfl)
abbrev si_plaitref11_Do : Shape := { sl := [(0, (.hole (.pair (.int .i64) (.pair (.int .i64) (.slice (.pair (.int .i64) (.pair (.int .i64) (.int .i64)))))))), (1, (.hole (.pair (.int .i64) (.pair (.int .i64) (.int .i64)))))], bl := [], ts := [(.pair (.int .i64) (.pair (.int .i64) (.slice (.pair (.int .i64) (.pair (.int .i64) (.int .i64)))))), (.pair (.int .i64) (.pair (.int .i64) (.int .i64)))], pin := 0 }
abbrev so_plaitref11_Do : Shape := { sl := [(0, (.hole (.pair (.int .i64) (.pair (.int .i64) (.slice (.pair (.int .i64) (.pair (.int .i64) (.int .i64)))))))), (1, (.hole (.int .i64))), (2, (.hole (.int .i64)))], bl := [], ts := [(.pair (.int .i64) (.pair (.int .i64) (.slice (.pair (.int .i64) (.pair (.int .i64) (.int .i64)))))), (.int .i64), (.int .i64)], pin := 0 }
noncomputable def F_plaitref11_Do (x : ((Int × (Int × List ((Int × (Int × Int))))) × (Int × (Int × Int)))) : Option ((Int × (Int × List ((Int × (Int × Int))))) × Int × Int) :=
  bif (x.1.1 == (0 : Int)) then
    some (((1 : Int), (x.2.1, ([] : List (Int × (Int × Int))))), ((0 : Int), (0 : Int)))
  else
    bif (x.1.1 == (2 : Int)) then
      some (x.1, ((2 : Int), (0 : Int)))
    else
      bif (x.1.2.1 == x.2.1) then
        some (((0 : Int), ((0 : Int), ([] : List (Int × (Int × Int))))), ((0 : Int), (6 : Int)))
      else
        ((F_plaitref05_Has (x.1.2.2, (x.2.1, x.2.2.1)))).bind fun r10 =>
        bif r10 then
          some (((0 : Int), ((0 : Int), ([] : List (Int × (Int × Int))))), ((0 : Int), (7 : Int)))
        else
          bif ((((List.length x.1.2.2) : Nat) : Int) == (64 : Int)) then
            some (((0 : Int), ((0 : Int), ([] : List (Int × (Int × Int))))), ((0 : Int), (5 : Int)))
          else
            bif (Go.Proofs.Ytegbkaaibgdheaa.VX.fits ((List.length ([] : List (Int × (Int × Int)))) + (List.length x.1.2.2))) then
              bif (Go.Proofs.Ytegbkaaibgdheaa.VX.fits ((List.length (([] : List (Int × (Int × Int))) ++ x.1.2.2)) + (List.length (x.2 :: ([] : List (Int × (Int × Int))))))) then
                some ((x.1.1, (x.1.2.1, ((([] : List (Int × (Int × Int))) ++ x.1.2.2) ++ (x.2 :: ([] : List (Int × (Int × Int))))))), ((1 : Int), (0 : Int)))
              else
                none
            else
              none
noncomputable def cx_plaitref11_Do : Ctx := { tb := mkTb T2.tbl, fx := [(26, [], Spec.shp si_plaitref05_Has so_plaitref05_Has F_plaitref05_Has)], sum := [], nt := 48, pin := 0, nr := true, ys := [] }
theorem F_plaitref11_Do_ok : Sound Try.prog 58 (Spec.shp si_plaitref11_Do so_plaitref11_Do F_plaitref11_Do) :=
  Sound.shp (C := cx_plaitref11_Do) (fn := Try.f58) (by kernel_rfl) (c := bodyOf Try.f58) (by kernel_rfl) (by decide) (ctxOK mixed tbl_ok rfl ⟨F_plaitref05_Has_ok, trivial⟩ trivial) (SumOK.of trivial) (by kernel_rfl) si_plaitref11_Do so_plaitref11_Do rfl (by decide) (by decide) rfl (by decide) rfl F_plaitref11_Do (fun x => by kernel_rfl)
abbrev si_plaitref11_End : Shape := { sl := [(0, (.hole (.pair (.int .i64) (.pair (.int .i64) (.slice (.pair (.int .i64) (.pair (.int .i64) (.int .i64)))))))), (1, (.hole (.int .i64)))], bl := [], ts := [(.pair (.int .i64) (.pair (.int .i64) (.slice (.pair (.int .i64) (.pair (.int .i64) (.int .i64)))))), (.int .i64)], pin := 0 }
abbrev so_plaitref11_End : Shape := { sl := [(0, (.hole (.pair (.int .i64) (.pair (.int .i64) (.slice (.pair (.int .i64) (.pair (.int .i64) (.int .i64)))))))), (1, (.hole (.slice (.pair (.int .i64) (.pair (.int .i64) (.int .i64)))))), (2, (.hole .bool))], bl := [], ts := [(.pair (.int .i64) (.pair (.int .i64) (.slice (.pair (.int .i64) (.pair (.int .i64) (.int .i64)))))), (.slice (.pair (.int .i64) (.pair (.int .i64) (.int .i64)))), .bool], pin := 0 }
noncomputable def F_plaitref11_End (x : ((Int × (Int × List ((Int × (Int × Int))))) × Int)) : Option ((Int × (Int × List ((Int × (Int × Int))))) × List ((Int × (Int × Int))) × Bool) :=
  bif (x.1.1 != (1 : Int)) then
    some (((0 : Int), ((0 : Int), ([] : List (Int × (Int × Int))))), (([] : List (Int × (Int × Int))), false))
  else
    bif (x.1.2.1 != x.2) then
      some (((0 : Int), ((0 : Int), ([] : List (Int × (Int × Int))))), (([] : List (Int × (Int × Int))), false))
    else
      some (((2 : Int), ((0 : Int), ([] : List (Int × (Int × Int))))), (x.1.2.2, true))
noncomputable def cx_plaitref11_End : Ctx := { tb := mkTb T2.tbl, fx := [], sum := [], nt := 20, pin := 0, nr := true, ys := [] }
theorem F_plaitref11_End_ok : Sound Try.prog 57 (Spec.shp si_plaitref11_End so_plaitref11_End F_plaitref11_End) :=
  Sound.shp (C := cx_plaitref11_End) (fn := Try.f57) (by kernel_rfl) (c := bodyOf Try.f57) (by kernel_rfl) (by decide) (ctxOK mixed tbl_ok rfl trivial trivial) (SumOK.of trivial) (by kernel_rfl) si_plaitref11_End so_plaitref11_End rfl (by decide) (by decide) rfl (by decide) rfl F_plaitref11_End (fun x => by kernel_rfl)
noncomputable def F_plaitlaw11_OnceTells (x : ((Int × (Int × List ((Int × (Int × Int))))) × (Int × (Int × Int)) × Int)) : Option (Bool) :=
  ((F_plaitlaw11_few x.1)).bind fun r1 =>
  ((F_once_Do (r1, x.2.1))).bind fun r2 =>
  ((F_once_End (r1, x.2.2))).bind fun r3 =>
  ((F_plaitref11_Right r1)).bind fun r4 =>
  ((F_once_Right r1)).bind fun r5 =>
  bif (Bool.not (Go.Proofs.Ytegbkaaibgdheaa.VX.Ty.beq Go.Proofs.Ytegbkaaibgdheaa.VX.Ty.bool r5 r4)) then
    some false
  else
    ((F_plaitlaw11_alive ())).bind fun r6 =>
    bif (Bool.not r6) then
      some false
    else
      bif (Bool.not r4) then
        bif (r3.2.2 != (1 : Int)) then
          some false
        else
          bif ((((List.length r3.2.1) : Nat) : Int) != (0 : Int)) then
            some false
          else
            ((F_plaitref11_Same (r3.1, ((0 : Int), ((0 : Int), ([] : List (Int × (Int × Int)))))))).bind fun r7 =>
            bif (Bool.not r7) then
              some false
            else
              bif (Bool.not r4) then
                bif (r2.2.2 == (1 : Int)) then
                  bif (r2.2.1 == (0 : Int)) then
                    ((F_plaitref11_Same (r2.1, ((0 : Int), ((0 : Int), ([] : List (Int × (Int × Int)))))))).bind fun r8 =>
                    some r8
                  else
                    some false
                else
                  some false
              else
                ((F_plaitref05_May x.2.1)).bind fun r8 =>
                bif (Bool.not r8) then
                  bif (r2.2.2 == (1 : Int)) then
                    bif (r2.2.1 == (0 : Int)) then
                      ((F_plaitref11_Same (r2.1, ((0 : Int), ((0 : Int), ([] : List (Int × (Int × Int)))))))).bind fun r9 =>
                      some r9
                    else
                      some false
                  else
                    some false
                else
                  ((F_plaitref11_Do (r1, x.2.1))).bind fun r9 =>
                  bif (r2.2.2 == r9.2.2) then
                    bif (r2.2.1 == r9.2.1) then
                      ((F_plaitref11_Same (r2.1, r9.1))).bind fun r10 =>
                      some r10
                    else
                      some false
                  else
                    some false
      else
        bif (decide (x.2.2 < (0 : Int))) then
          bif (r3.2.2 != (1 : Int)) then
            some false
          else
            bif ((((List.length r3.2.1) : Nat) : Int) != (0 : Int)) then
              some false
            else
              ((F_plaitref11_Same (r3.1, ((0 : Int), ((0 : Int), ([] : List (Int × (Int × Int)))))))).bind fun r7 =>
              bif (Bool.not r7) then
                some false
              else
                bif (Bool.not r4) then
                  bif (r2.2.2 == (1 : Int)) then
                    bif (r2.2.1 == (0 : Int)) then
                      ((F_plaitref11_Same (r2.1, ((0 : Int), ((0 : Int), ([] : List (Int × (Int × Int)))))))).bind fun r8 =>
                      some r8
                    else
                      some false
                  else
                    some false
                else
                  ((F_plaitref05_May x.2.1)).bind fun r8 =>
                  bif (Bool.not r8) then
                    bif (r2.2.2 == (1 : Int)) then
                      bif (r2.2.1 == (0 : Int)) then
                        ((F_plaitref11_Same (r2.1, ((0 : Int), ((0 : Int), ([] : List (Int × (Int × Int)))))))).bind fun r9 =>
                        some r9
                      else
                        some false
                    else
                      some false
                  else
                    ((F_plaitref11_Do (r1, x.2.1))).bind fun r9 =>
                    bif (r2.2.2 == r9.2.2) then
                      bif (r2.2.1 == r9.2.1) then
                        ((F_plaitref11_Same (r2.1, r9.1))).bind fun r10 =>
                        some r10
                      else
                        some false
                    else
                      some false
        else
          ((F_plaitref11_End (r1, x.2.2))).bind fun r7 =>
          bif (Bool.not r7.2.2) then
            bif (r3.2.2 != (6 : Int)) then
              some false
            else
              bif ((((List.length r3.2.1) : Nat) : Int) != (0 : Int)) then
                some false
              else
                ((F_plaitref11_Same (r3.1, ((0 : Int), ((0 : Int), ([] : List (Int × (Int × Int)))))))).bind fun r8 =>
                bif (Bool.not r8) then
                  some false
                else
                  bif (Bool.not r4) then
                    bif (r2.2.2 == (1 : Int)) then
                      bif (r2.2.1 == (0 : Int)) then
                        ((F_plaitref11_Same (r2.1, ((0 : Int), ((0 : Int), ([] : List (Int × (Int × Int)))))))).bind fun r9 =>
                        some r9
                      else
                        some false
                    else
                      some false
                  else
                    ((F_plaitref05_May x.2.1)).bind fun r9 =>
                    bif (Bool.not r9) then
                      bif (r2.2.2 == (1 : Int)) then
                        bif (r2.2.1 == (0 : Int)) then
                          ((F_plaitref11_Same (r2.1, ((0 : Int), ((0 : Int), ([] : List (Int × (Int × Int)))))))).bind fun r10 =>
                          some r10
                        else
                          some false
                      else
                        some false
                    else
                      ((F_plaitref11_Do (r1, x.2.1))).bind fun r10 =>
                      bif (r2.2.2 == r10.2.2) then
                        bif (r2.2.1 == r10.2.1) then
                          ((F_plaitref11_Same (r2.1, r10.1))).bind fun r11 =>
                          some r11
                        else
                          some false
                      else
                        some false
          else
            bif (r3.2.2 != (0 : Int)) then
              some false
            else
              ((F_plaitref05_Same (r3.2.1, r7.2.1))).bind fun r8 =>
              bif (Bool.not r8) then
                some false
              else
                ((F_plaitref11_Same (r3.1, r7.1))).bind fun r9 =>
                bif (Bool.not r9) then
                  some false
                else
                  bif (Bool.not r4) then
                    bif (r2.2.2 == (1 : Int)) then
                      bif (r2.2.1 == (0 : Int)) then
                        ((F_plaitref11_Same (r2.1, ((0 : Int), ((0 : Int), ([] : List (Int × (Int × Int)))))))).bind fun r10 =>
                        some r10
                      else
                        some false
                    else
                      some false
                  else
                    ((F_plaitref05_May x.2.1)).bind fun r10 =>
                    bif (Bool.not r10) then
                      bif (r2.2.2 == (1 : Int)) then
                        bif (r2.2.1 == (0 : Int)) then
                          ((F_plaitref11_Same (r2.1, ((0 : Int), ((0 : Int), ([] : List (Int × (Int × Int)))))))).bind fun r11 =>
                          some r11
                        else
                          some false
                      else
                        some false
                    else
                      ((F_plaitref11_Do (r1, x.2.1))).bind fun r11 =>
                      bif (r2.2.2 == r11.2.2) then
                        bif (r2.2.1 == r11.2.1) then
                          ((F_plaitref11_Same (r2.1, r11.1))).bind fun r12 =>
                          some r12
                        else
                          some false
                      else
                        some false
noncomputable def cx_plaitlaw11_OnceTells : Ctx := { tb := mkTb T2.tbl, fx := [(50, [], Spec.shp si_plaitlaw11_few so_plaitlaw11_few F_plaitlaw11_few), (51, [], Spec.shp si_once_Do so_once_Do F_once_Do), (52, [], Spec.shp si_once_End so_once_End F_once_End), (53, [], Spec.shp si_plaitref11_Right so_plaitref11_Right F_plaitref11_Right), (54, [], Spec.shp si_once_Right so_once_Right F_once_Right), (55, [], Spec.shp si_plaitlaw11_alive so_plaitlaw11_alive F_plaitlaw11_alive), (56, [], Spec.shp si_plaitref11_Same so_plaitref11_Same F_plaitref11_Same), (44, [], Spec.shp si_plaitref05_May so_plaitref05_May F_plaitref05_May), (58, [], Spec.shp si_plaitref11_Do so_plaitref11_Do F_plaitref11_Do), (57, [], Spec.shp si_plaitref11_End so_plaitref11_End F_plaitref11_End), (27, [], Spec.shp si_plaitref05_Same so_plaitref05_Same F_plaitref05_Same)], sum := [], nt := 141, pin := 0, nr := true, ys := [] }
theorem F_plaitlaw11_OnceTells_ok : Sound Try.prog 11 (Spec.pure [(.pair (.int .i64) (.pair (.int .i64) (.slice (.pair (.int .i64) (.pair (.int .i64) (.int .i64)))))), (.pair (.int .i64) (.pair (.int .i64) (.int .i64))), (.int .i64)] [.bool] F_plaitlaw11_OnceTells) :=
  Sound.pure (C := cx_plaitlaw11_OnceTells) (fn := Try.f11) (by kernel_rfl) (c := bodyOf Try.f11) (by kernel_rfl) (by decide) (ctxOK mixed tbl_ok rfl ⟨F_plaitlaw11_few_ok, F_once_Do_ok, F_once_End_ok, F_plaitref11_Right_ok, F_once_Right_ok, F_plaitlaw11_alive_ok, F_plaitref11_Same_ok, F_plaitref05_May_ok, F_plaitref11_Do_ok, F_plaitref11_End_ok, F_plaitref05_Same_ok, trivial⟩) (SumOK.of trivial) (by kernel_rfl) rfl _ _ (by decide) _ (fun x => by kernel_rfl)


end Go.Proofs.Ytegbkaaibgdheaa.VX.VxB_O
