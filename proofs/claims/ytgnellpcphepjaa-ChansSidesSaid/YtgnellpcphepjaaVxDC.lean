import Derived.Test.YtgnellpcphepjaaVxDCa
set_option linter.unusedVariables false
set_option maxRecDepth 100000
namespace Go.Proofs.Ytgnellpcphepjaa.VX.VxD_C
open Go.Proofs Go.Proofs.Ytgnellpcphepjaa.VX.T2
noncomputable def F_plaitlaw09_ChansCloses (x : ((Int × (Bool × ((Int × (Int × (List (Int) × Int))) × (Int × (Int × (List ((Int × (Int × Int))) × List ((Int × (Int × Int))))))))) × Int × Int)) : Option (Bool) :=
  ((F_plaitlaw09_few x.1)).bind fun r1 =>
  ((F_chans_Close r1)).bind fun r2 =>
  bif (r2.2.2.2 != (0 : Int)) then
    ((F_plaitlaw09_alive ())).bind fun r3 =>
    bif r3 then
      bif ((((List.length r2.2.1) : Nat) : Int) == (0 : Int)) then
        bif (r2.2.2.2 == (0 : Int)) then
          some true
        else
          bif (r2.2.2.2 == (1 : Int)) then
            some (Bool.not r2.2.2.1)
          else
            some false
      else
        some false
    else
      some false
  else
    bif r2.2.2.1 then
      ((F_plaitlaw09_alive ())).bind fun r3 =>
      bif r3 then
        bif ((((List.length r2.2.1) : Nat) : Int) == (0 : Int)) then
          bif (r2.2.2.2 == (0 : Int)) then
            some true
          else
            bif (r2.2.2.2 == (1 : Int)) then
              some (Bool.not r2.2.2.1)
            else
              some false
        else
          some false
      else
        some false
    else
      bif (decide ((((List.length r2.2.1) : Nat) : Int) > (0 : Int))) then
        bif (r1.2.2.2.1 != r1.2.2.2.2.1) then
          some false
        else
          bif (r2.1.2.2.2.1 != r1.2.2.2.1) then
            some false
          else
            bif (Bool.not r2.1.2.1) then
              some false
            else
              ((F_plaitlaw09_alive ())).bind fun r3 =>
              bif (Bool.not r3) then
                some false
              else
                ((loop L_plaitlaw09_ChansCloses_10 ((Int.tmod (Go.IntKind.wrap Go.IntKind.i64 ((Int.tmod x.2.1 (8 : Int)) + (8 : Int))) (8 : Int)), ((Go.IntKind.wrap Go.IntKind.i64 ((1 : Int) + (Int.tmod (Go.IntKind.wrap Go.IntKind.i64 ((Int.tmod x.2.2 (4 : Int)) + (4 : Int))) (4 : Int)))), (r1.2.2.2.2.1, (r1, r2.1)))))).bind fun r4 =>
                match r4 with
                | .inl y5 =>
                  some y5
                | .inr y5 =>
                  ((loop L_plaitlaw09_ChansCloses_17 (y5.1, (y5.2.1, ((0 : Int), y5.2.2))))).bind fun r6 =>
                  match r6 with
                  | .inl y7 =>
                    some y7
                  | .inr y7 =>
                    some true
      else
        bif (r2.1.2.2.2.1 != r1.2.2.2.1) then
          some false
        else
          bif (Bool.not r2.1.2.1) then
            some false
          else
            ((F_plaitlaw09_alive ())).bind fun r3 =>
            bif (Bool.not r3) then
              some false
            else
              ((loop L_plaitlaw09_ChansCloses_10 ((Int.tmod (Go.IntKind.wrap Go.IntKind.i64 ((Int.tmod x.2.1 (8 : Int)) + (8 : Int))) (8 : Int)), ((Go.IntKind.wrap Go.IntKind.i64 ((1 : Int) + (Int.tmod (Go.IntKind.wrap Go.IntKind.i64 ((Int.tmod x.2.2 (4 : Int)) + (4 : Int))) (4 : Int)))), (r1.2.2.2.2.1, (r1, r2.1)))))).bind fun r4 =>
              match r4 with
              | .inl y5 =>
                some y5
              | .inr y5 =>
                ((loop L_plaitlaw09_ChansCloses_17 (y5.1, (y5.2.1, ((0 : Int), y5.2.2))))).bind fun r6 =>
                match r6 with
                | .inl y7 =>
                  some y7
                | .inr y7 =>
                  some true
noncomputable def cx_plaitlaw09_ChansCloses : Ctx := { tb := mkTb T2.tbl, fx := [(7, [], Spec.shp si_plaitlaw09_few so_plaitlaw09_few F_plaitlaw09_few), (17, [], Spec.shp si_chans_Close so_chans_Close F_chans_Close), (12, [], Spec.shp si_plaitlaw09_alive so_plaitlaw09_alive F_plaitlaw09_alive), (9, [], Spec.shp si_chans_Recv so_chans_Recv F_chans_Recv), (8, [], Spec.shp si_chans_Send so_chans_Send F_chans_Send)], sum := [(0, 10, pieceSpec sh_plaitlaw09_ChansCloses_10 es_plaitlaw09_ChansCloses_10 (loop L_plaitlaw09_ChansCloses_10)), (0, 17, pieceSpec sh_plaitlaw09_ChansCloses_17 es_plaitlaw09_ChansCloses_17 (loop L_plaitlaw09_ChansCloses_17))], nt := 193, pin := 0, nr := true, ys := [] }
theorem F_plaitlaw09_ChansCloses_ok : Sound Try.prog 4 (Spec.pure [(.pair (.int .i64) (.pair .bool (.pair (.pair (.int .i64) (.pair (.int .i64) (.pair (.slice (.int .i64)) (.int .i64)))) (.pair (.int .i64) (.pair (.int .i64) (.pair (.slice (.pair (.int .i64) (.pair (.int .i64) (.int .i64)))) (.slice (.pair (.int .i64) (.pair (.int .i64) (.int .i64)))))))))), (.int .i64), (.int .i64)] [.bool] F_plaitlaw09_ChansCloses) :=
  Sound.pure (C := cx_plaitlaw09_ChansCloses) (fn := Try.f4) (by kernel_rfl) (c := bodyOf Try.f4) (by kernel_rfl) (by decide) (ctxOK mixed tbl_ok rfl ⟨F_plaitlaw09_few_ok, F_chans_Close_ok, F_plaitlaw09_alive_ok, F_chans_Recv_ok, F_chans_Send_ok, trivial⟩) (SumOK.of ⟨(pieces_one (d := .loop (loopOf 10 Try.f4)) (by kernel_rfl) L_plaitlaw09_ChansCloses_10_ok), (pieces_one (d := .loop (loopOf 17 Try.f4)) (by kernel_rfl) L_plaitlaw09_ChansCloses_17_ok), trivial⟩) (by kernel_rfl) rfl _ _ (by decide) _ (fun x => by kernel_rfl)
abbrev sh_plaitlaw09_ChansSides_13 : Shape := { sl := [(1, (.hole (.int .i64))), (2, (.hole (.int .i64))), (4, (.ptr 0 [])), (9, (.ptr 1 [])), (106, (.sl 2)), (107, (.hole (.int .i64))), (108, (.hole (.int .i64)))], bl := [.var (.hole (.pair (.int .i64) (.pair .bool (.pair (.pair (.int .i64) (.pair (.int .i64) (.pair (.slice (.int .i64)) (.int .i64)))) (.pair (.int .i64) (.pair (.int .i64) (.pair (.slice (.pair (.int .i64) (.pair (.int .i64) (.int .i64)))) (.slice (.pair (.int .i64) (.pair (.int .i64) (.int .i64))))))))))), .var (.hole (.pair (.int .i64) (.pair .bool (.pair (.pair (.int .i64) (.pair (.int .i64) (.pair (.slice (.int .i64)) (.int .i64)))) (.pair (.int .i64) (.pair (.int .i64) (.pair (.slice (.pair (.int .i64) (.pair (.int .i64) (.int .i64)))) (.slice (.pair (.int .i64) (.pair (.int .i64) (.int .i64))))))))))), .row (.pair (.int .i64) (.pair (.int .i64) (.int .i64)))], ts := [(.int .i64), (.int .i64), (.int .i64), (.int .i64), (.pair (.int .i64) (.pair .bool (.pair (.pair (.int .i64) (.pair (.int .i64) (.pair (.slice (.int .i64)) (.int .i64)))) (.pair (.int .i64) (.pair (.int .i64) (.pair (.slice (.pair (.int .i64) (.pair (.int .i64) (.int .i64)))) (.slice (.pair (.int .i64) (.pair (.int .i64) (.int .i64)))))))))), (.pair (.int .i64) (.pair .bool (.pair (.pair (.int .i64) (.pair (.int .i64) (.pair (.slice (.int .i64)) (.int .i64)))) (.pair (.int .i64) (.pair (.int .i64) (.pair (.slice (.pair (.int .i64) (.pair (.int .i64) (.int .i64)))) (.slice (.pair (.int .i64) (.pair (.int .i64) (.int .i64)))))))))), (.slice (.pair (.int .i64) (.pair (.int .i64) (.int .i64))))], pin := 0 }
abbrev es_plaitlaw09_ChansSides_13 : List (ETag × Shape) := [(.ret, { sl := [(8, (.hole .bool))], bl := [], ts := [.bool], pin := 0 }), (.exit 0, { sl := [(1, (.hole (.int .i64))), (2, (.hole (.int .i64))), (4, (.ptr 0 [])), (9, (.ptr 1 []))], bl := [.var (.hole (.pair (.int .i64) (.pair .bool (.pair (.pair (.int .i64) (.pair (.int .i64) (.pair (.slice (.int .i64)) (.int .i64)))) (.pair (.int .i64) (.pair (.int .i64) (.pair (.slice (.pair (.int .i64) (.pair (.int .i64) (.int .i64)))) (.slice (.pair (.int .i64) (.pair (.int .i64) (.int .i64))))))))))), .var (.hole (.pair (.int .i64) (.pair .bool (.pair (.pair (.int .i64) (.pair (.int .i64) (.pair (.slice (.int .i64)) (.int .i64)))) (.pair (.int .i64) (.pair (.int .i64) (.pair (.slice (.pair (.int .i64) (.pair (.int .i64) (.int .i64)))) (.slice (.pair (.int .i64) (.pair (.int .i64) (.int .i64)))))))))))], ts := [(.int .i64), (.int .i64), (.pair (.int .i64) (.pair .bool (.pair (.pair (.int .i64) (.pair (.int .i64) (.pair (.slice (.int .i64)) (.int .i64)))) (.pair (.int .i64) (.pair (.int .i64) (.pair (.slice (.pair (.int .i64) (.pair (.int .i64) (.int .i64)))) (.slice (.pair (.int .i64) (.pair (.int .i64) (.int .i64)))))))))), (.pair (.int .i64) (.pair .bool (.pair (.pair (.int .i64) (.pair (.int .i64) (.pair (.slice (.int .i64)) (.int .i64)))) (.pair (.int .i64) (.pair (.int .i64) (.pair (.slice (.pair (.int .i64) (.pair (.int .i64) (.int .i64)))) (.slice (.pair (.int .i64) (.pair (.int .i64) (.int .i64))))))))))], pin := 0 })]
noncomputable def L_plaitlaw09_ChansSides_13 (x : (Int × Int × Int × Int × (Int × (Bool × ((Int × (Int × (List (Int) × Int))) × (Int × (Int × (List ((Int × (Int × Int))) × List ((Int × (Int × Int))))))))) × (Int × (Bool × ((Int × (Int × (List (Int) × Int))) × (Int × (Int × (List ((Int × (Int × Int))) × List ((Int × (Int × Int))))))))) × List ((Int × (Int × Int))))) : Option ((Int × Int × Int × Int × (Int × (Bool × ((Int × (Int × (List (Int) × Int))) × (Int × (Int × (List ((Int × (Int × Int))) × List ((Int × (Int × Int))))))))) × (Int × (Bool × ((Int × (Int × (List (Int) × Int))) × (Int × (Int × (List ((Int × (Int × Int))) × List ((Int × (Int × Int))))))))) × List ((Int × (Int × Int)))) ⊕ ((Bool) ⊕ (Int × Int × (Int × (Bool × ((Int × (Int × (List (Int) × Int))) × (Int × (Int × (List ((Int × (Int × Int))) × List ((Int × (Int × Int))))))))) × (Int × (Bool × ((Int × (Int × (List (Int) × Int))) × (Int × (Int × (List ((Int × (Int × Int))) × List ((Int × (Int × Int)))))))))))) :=
  bif (decide (x.2.2.2.1 < x.2.2.1)) then
    bif (Go.Proofs.Ytgnellpcphepjaa.VX.inb x.2.2.2.1 (List.length x.2.2.2.2.2.2)) then
      bif ((Go.Proofs.Ytgnellpcphepjaa.VX.getAt ((0 : Int), ((0 : Int), (0 : Int))) x.2.2.2.2.2.2 (Go.Proofs.Ytgnellpcphepjaa.VX.toN x.2.2.2.1)).1 == x.1) then
        some (.inr (.inl false))
      else
        some (.inl (x.1, (x.2.1, (x.2.2.1, ((Go.IntKind.wrap Go.IntKind.i64 (x.2.2.2.1 + (1 : Int))), (x.2.2.2.2.1, (x.2.2.2.2.2.1, x.2.2.2.2.2.2)))))))
    else
      none
  else
    some (.inr (.inr (x.1, (x.2.1, (x.2.2.2.2.1, x.2.2.2.2.2.1)))))
noncomputable def cx_plaitlaw09_ChansSides_13 : Ctx := { tb := mkTb T2.tbl, fx := [(7, [], Spec.shp si_plaitlaw09_few so_plaitlaw09_few F_plaitlaw09_few), (18, [], Spec.shp si_chans_Leave so_chans_Leave F_chans_Leave), (12, [], Spec.shp si_plaitlaw09_alive so_plaitlaw09_alive F_plaitlaw09_alive), (13, [], Spec.shp si_plaitlaw09_empty so_plaitlaw09_empty F_plaitlaw09_empty), (19, [], Spec.shp si_chans_Ready so_chans_Ready F_chans_Ready), (16, [], Spec.shp si_plaitref09_Same so_plaitref09_Same F_plaitref09_Same), (20, [], Spec.shp si_chans_Right so_chans_Right F_chans_Right)], sum := [], nt := 153, pin := 0, nr := true, ys := [] }
theorem L_plaitlaw09_ChansSides_13_ok : CSound Try.prog ⟨153, 0, true⟩ (.loop (loopOf 13 Try.f5)) (pieceSpec sh_plaitlaw09_ChansSides_13 es_plaitlaw09_ChansSides_13 (loop L_plaitlaw09_ChansSides_13)) :=
  loop_sound (C := cx_plaitlaw09_ChansSides_13) (ctxOK mixed tbl_ok rfl ⟨F_plaitlaw09_few_ok, F_chans_Leave_ok, F_plaitlaw09_alive_ok, F_plaitlaw09_empty_ok, F_chans_Ready_ok, F_plaitref09_Same_ok, F_chans_Right_ok, trivial⟩ trivial) (SumOK.of trivial) sh_plaitlaw09_ChansSides_13 es_plaitlaw09_ChansSides_13 rfl rfl L_plaitlaw09_ChansSides_13 (fun x => by kernel_rfl)
noncomputable def F_plaitlaw09_ChansSides (x : ((Int × (Bool × ((Int × (Int × (List (Int) × Int))) × (Int × (Int × (List ((Int × (Int × Int))) × List ((Int × (Int × Int))))))))) × Int × Int × Bool)) : Option (Bool) :=
  ((F_plaitlaw09_few x.1)).bind fun r1 =>
  ((F_chans_Leave (r1, (Int.tmod (Go.IntKind.wrap Go.IntKind.i64 ((Int.tmod x.2.1 (8 : Int)) + (8 : Int))) (8 : Int))))).bind fun r2 =>
  bif (r2.2 != (0 : Int)) then
    ((F_plaitlaw09_alive ())).bind fun r3 =>
    bif r3 then
      bif (r2.2 == (1 : Int)) then
        ((F_plaitlaw09_empty r2.1)).bind fun r4 =>
        some r4
      else
        some false
    else
      some false
  else
    ((F_chans_Leave (r2.1, (Int.tmod (Go.IntKind.wrap Go.IntKind.i64 ((Int.tmod x.2.1 (8 : Int)) + (8 : Int))) (8 : Int))))).bind fun r3 =>
    ((F_chans_Ready (r2.1, (x.2.2.2, (Int.tmod (Go.IntKind.wrap Go.IntKind.i64 ((Int.tmod x.2.1 (8 : Int)) + (8 : Int))) (8 : Int)))))).bind fun r4 =>
    ((F_chans_Ready (r1, (x.2.2.2, (Int.tmod (Go.IntKind.wrap Go.IntKind.i64 ((Int.tmod x.2.1 (8 : Int)) + (8 : Int))) (8 : Int)))))).bind fun r5 =>
    bif (r3.2 != (0 : Int)) then
      some false
    else
      bif (r4.2 != (0 : Int)) then
        some false
      else
        bif (r5.2 != (0 : Int)) then
          some false
        else
          bif (Bool.not (r4.1 == r5.1)) then
            some false
          else
            ((F_plaitref09_Same (r2.1, r3.1))).bind fun r6 =>
            bif (Bool.not r6) then
              some false
            else
              ((F_chans_Right r2.1)).bind fun r7 =>
              bif (Bool.not r7) then
                some false
              else
                ((F_plaitlaw09_alive ())).bind fun r8 =>
                bif (Bool.not r8) then
                  some false
                else
                  bif (Go.Proofs.Ytgnellpcphepjaa.VX.fits ((List.length ([] : List (Int × (Int × Int)))) + (List.length r2.1.2.2.2.2.2.1))) then
                    bif (Go.Proofs.Ytgnellpcphepjaa.VX.fits ((List.length (([] : List (Int × (Int × Int))) ++ r2.1.2.2.2.2.2.1)) + (List.length r2.1.2.2.2.2.2.2))) then
                      ((loop L_plaitlaw09_ChansSides_13 ((Int.tmod (Go.IntKind.wrap Go.IntKind.i64 ((Int.tmod x.2.1 (8 : Int)) + (8 : Int))) (8 : Int)), ((Int.tmod (Go.IntKind.wrap Go.IntKind.i64 ((Int.tmod x.2.2.1 (8 : Int)) + (8 : Int))) (8 : Int)), ((((List.length ((([] : List (Int × (Int × Int))) ++ r2.1.2.2.2.2.2.1) ++ r2.1.2.2.2.2.2.2)) : Nat) : Int), ((0 : Int), (r1, (r2.1, ((([] : List (Int × (Int × Int))) ++ r2.1.2.2.2.2.2.1) ++ r2.1.2.2.2.2.2.2))))))))).bind fun r9 =>
                      match r9 with
                      | .inl y10 =>
                        some y10
                      | .inr y10 =>
                        ((F_chans_Leave (y10.2.2.2, y10.2.1))).bind fun r11 =>
                        ((F_chans_Leave (y10.2.2.1, y10.2.1))).bind fun r12 =>
                        bif (r12.2 != (0 : Int)) then
                          some false
                        else
                          bif (r11.2 != (0 : Int)) then
                            some false
                          else
                            ((F_chans_Leave (r12.1, y10.1))).bind fun r13 =>
                            bif (r13.2 == (0 : Int)) then
                              ((F_plaitref09_Same (r11.1, r13.1))).bind fun r14 =>
                              bif r14 then
                                ((F_plaitref04_Right r11.1.2.2.1)).bind fun r15 =>
                                some r15
                              else
                                some false
                            else
                              some false
                    else
                      none
                  else
                    none
noncomputable def cx_plaitlaw09_ChansSides : Ctx := { tb := mkTb T2.tbl, fx := [(7, [], Spec.shp si_plaitlaw09_few so_plaitlaw09_few F_plaitlaw09_few), (18, [], Spec.shp si_chans_Leave so_chans_Leave F_chans_Leave), (12, [], Spec.shp si_plaitlaw09_alive so_plaitlaw09_alive F_plaitlaw09_alive), (13, [], Spec.shp si_plaitlaw09_empty so_plaitlaw09_empty F_plaitlaw09_empty), (19, [], Spec.shp si_chans_Ready so_chans_Ready F_chans_Ready), (16, [], Spec.shp si_plaitref09_Same so_plaitref09_Same F_plaitref09_Same), (20, [], Spec.shp si_chans_Right so_chans_Right F_chans_Right), (21, [], Spec.shp si_plaitref04_Right so_plaitref04_Right F_plaitref04_Right)], sum := [(0, 13, pieceSpec sh_plaitlaw09_ChansSides_13 es_plaitlaw09_ChansSides_13 (loop L_plaitlaw09_ChansSides_13))], nt := 153, pin := 0, nr := true, ys := [] }
theorem F_plaitlaw09_ChansSides_ok : Sound Try.prog 5 (Spec.pure [(.pair (.int .i64) (.pair .bool (.pair (.pair (.int .i64) (.pair (.int .i64) (.pair (.slice (.int .i64)) (.int .i64)))) (.pair (.int .i64) (.pair (.int .i64) (.pair (.slice (.pair (.int .i64) (.pair (.int .i64) (.int .i64)))) (.slice (.pair (.int .i64) (.pair (.int .i64) (.int .i64)))))))))), (.int .i64), (.int .i64), .bool] [.bool] F_plaitlaw09_ChansSides) :=
  Sound.pure (C := cx_plaitlaw09_ChansSides) (fn := Try.f5) (by kernel_rfl) (c := bodyOf Try.f5) (by kernel_rfl) (by decide) (ctxOK mixed tbl_ok rfl ⟨F_plaitlaw09_few_ok, F_chans_Leave_ok, F_plaitlaw09_alive_ok, F_plaitlaw09_empty_ok, F_chans_Ready_ok, F_plaitref09_Same_ok, F_chans_Right_ok, F_plaitref04_Right_ok, trivial⟩) (SumOK.of ⟨(pieces_one (d := .loop (loopOf 13 Try.f5)) (by kernel_rfl) L_plaitlaw09_ChansSides_13_ok), trivial⟩) (by kernel_rfl) rfl _ _ (by decide) _ (fun x => by kernel_rfl)


end Go.Proofs.Ytgnellpcphepjaa.VX.VxD_C
