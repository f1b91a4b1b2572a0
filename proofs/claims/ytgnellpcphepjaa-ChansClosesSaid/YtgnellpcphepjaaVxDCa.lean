import Derived.Test.YtgnellpcphepjaaVxR
import Derived.Test.YtgnellpcphepjaaVxT2
set_option linter.unusedVariables false
set_option maxRecDepth 100000
namespace Go.Proofs.Ytgnellpcphepjaa.VX.VxD_C
open Go.Proofs Go.Proofs.Ytgnellpcphepjaa.VX.T2
theorem mixed : Try.prog.follows .mixedOrders = true := by kernel_rfl
abbrev si_plaitlaw09_few : Shape := { sl := [(0, (.hole (.pair (.int .i64) (.pair .bool (.pair (.pair (.int .i64) (.pair (.int .i64) (.pair (.slice (.int .i64)) (.int .i64)))) (.pair (.int .i64) (.pair (.int .i64) (.pair (.slice (.pair (.int .i64) (.pair (.int .i64) (.int .i64)))) (.slice (.pair (.int .i64) (.pair (.int .i64) (.int .i64))))))))))))], bl := [], ts := [(.pair (.int .i64) (.pair .bool (.pair (.pair (.int .i64) (.pair (.int .i64) (.pair (.slice (.int .i64)) (.int .i64)))) (.pair (.int .i64) (.pair (.int .i64) (.pair (.slice (.pair (.int .i64) (.pair (.int .i64) (.int .i64)))) (.slice (.pair (.int .i64) (.pair (.int .i64) (.int .i64))))))))))], pin := 0 }
abbrev so_plaitlaw09_few : Shape := { sl := [(0, (.hole (.pair (.int .i64) (.pair .bool (.pair (.pair (.int .i64) (.pair (.int .i64) (.pair (.slice (.int .i64)) (.int .i64)))) (.pair (.int .i64) (.pair (.int .i64) (.pair (.slice (.pair (.int .i64) (.pair (.int .i64) (.int .i64)))) (.slice (.pair (.int .i64) (.pair (.int .i64) (.int .i64))))))))))))], bl := [], ts := [(.pair (.int .i64) (.pair .bool (.pair (.pair (.int .i64) (.pair (.int .i64) (.pair (.slice (.int .i64)) (.int .i64)))) (.pair (.int .i64) (.pair (.int .i64) (.pair (.slice (.pair (.int .i64) (.pair (.int .i64) (.int .i64)))) (.slice (.pair (.int .i64) (.pair (.int .i64) (.int .i64))))))))))], pin := 0 }
noncomputable def F_plaitlaw09_few (x : ((Int × (Bool × ((Int × (Int × (List (Int) × Int))) × (Int × (Int × (List ((Int × (Int × Int))) × List ((Int × (Int × Int))))))))))) : Option ((Int × (Bool × ((Int × (Int × (List (Int) × Int))) × (Int × (Int × (List ((Int × (Int × Int))) × List ((Int × (Int × Int)))))))))) :=
  bif (Go.Proofs.Ytgnellpcphepjaa.VX.sub3 (0 : Int) (Min.min (((List.length x.2.2.1.2.2.1) : Nat) : Int) (12 : Int)) (List.length x.2.2.1.2.2.1)) then
    bif (Go.Proofs.Ytgnellpcphepjaa.VX.sub3 (0 : Int) (Min.min (((List.length x.2.2.2.2.2.1) : Nat) : Int) (70 : Int)) (List.length x.2.2.2.2.2.1)) then
      bif (Go.Proofs.Ytgnellpcphepjaa.VX.sub3 (0 : Int) (Min.min (((List.length x.2.2.2.2.2.2) : Nat) : Int) (70 : Int)) (List.length x.2.2.2.2.2.2)) then
        some (x.1, (x.2.1, ((x.2.2.1.1, (x.2.2.1.2.1, ((Go.Proofs.Ytgnellpcphepjaa.VX.cut x.2.2.1.2.2.1 (Go.Proofs.Ytgnellpcphepjaa.VX.toN (0 : Int)) ((Go.Proofs.Ytgnellpcphepjaa.VX.toN (Min.min (((List.length x.2.2.1.2.2.1) : Nat) : Int) (12 : Int))) - (Go.Proofs.Ytgnellpcphepjaa.VX.toN (0 : Int)))), x.2.2.1.2.2.2))), (x.2.2.2.1, (x.2.2.2.2.1, ((Go.Proofs.Ytgnellpcphepjaa.VX.cut x.2.2.2.2.2.1 (Go.Proofs.Ytgnellpcphepjaa.VX.toN (0 : Int)) ((Go.Proofs.Ytgnellpcphepjaa.VX.toN (Min.min (((List.length x.2.2.2.2.2.1) : Nat) : Int) (70 : Int))) - (Go.Proofs.Ytgnellpcphepjaa.VX.toN (0 : Int)))), (Go.Proofs.Ytgnellpcphepjaa.VX.cut x.2.2.2.2.2.2 (Go.Proofs.Ytgnellpcphepjaa.VX.toN (0 : Int)) ((Go.Proofs.Ytgnellpcphepjaa.VX.toN (Min.min (((List.length x.2.2.2.2.2.2) : Nat) : Int) (70 : Int))) - (Go.Proofs.Ytgnellpcphepjaa.VX.toN (0 : Int))))))))))
      else
        none
    else
      none
  else
    none
noncomputable def cx_plaitlaw09_few : Ctx := { tb := mkTb T2.tbl, fx := [], sum := [], nt := 31, pin := 0, nr := true, ys := [] }
theorem F_plaitlaw09_few_ok : Sound Try.prog 7 (Spec.shp si_plaitlaw09_few so_plaitlaw09_few F_plaitlaw09_few) :=
  Sound.shp (C := cx_plaitlaw09_few) (fn := Try.f7) (by kernel_rfl) (c := bodyOf Try.f7) (by kernel_rfl) (by decide) (ctxOK mixed tbl_ok rfl trivial trivial) (SumOK.of trivial) (by kernel_rfl) si_plaitlaw09_few so_plaitlaw09_few rfl (by decide) (by decide) rfl (by decide) rfl F_plaitlaw09_few (fun x => by kernel_rfl)
abbrev si_ring_New : Shape := { sl := [(0, (.hole (.int .i64)))], bl := [], ts := [(.int .i64)], pin := 0 }
abbrev so_ring_New : Shape := { sl := [(0, (.hole (.pair (.int .i64) (.pair (.int .i64) (.pair (.slice (.int .i64)) (.int .i64)))))), (1, (.hole (.int .i64)))], bl := [], ts := [(.pair (.int .i64) (.pair (.int .i64) (.pair (.slice (.int .i64)) (.int .i64)))), (.int .i64)], pin := 0 }
noncomputable def F_ring_New (x : (Int)) : Option ((Int × (Int × (List (Int) × Int))) × Int) :=
  bif (decide (x < (0 : Int))) then
    some (((0 : Int), ((0 : Int), (([] : List Int), (0 : Int)))), (2 : Int))
  else
    bif (decide (x > (8 : Int))) then
      some (((0 : Int), ((0 : Int), (([] : List Int), (0 : Int)))), (2 : Int))
    else
      bif (Go.Proofs.Ytgnellpcphepjaa.VX.mkOK x x) then
        some ((x, ((0 : Int), ((List.replicate (Go.Proofs.Ytgnellpcphepjaa.VX.toN x) (0 : Int)), (0 : Int)))), (0 : Int))
      else
        none
noncomputable def cx_ring_New : Ctx := { tb := mkTb T2.tbl, fx := [], sum := [], nt := 15, pin := 0, nr := true, ys := [] }
theorem F_ring_New_ok : Sound Try.prog 48 (Spec.shp si_ring_New so_ring_New F_ring_New) :=
  Sound.shp (C := cx_ring_New) (fn := Try.f48) (by kernel_rfl) (c := bodyOf Try.f48) (by kernel_rfl) (by decide) (ctxOK mixed tbl_ok rfl trivial trivial) (SumOK.of trivial) (by kernel_rfl) si_ring_New so_ring_New rfl (by decide) (by decide) rfl (by decide) rfl F_ring_New (fun x => by kernel_rfl)
abbrev si_chans_New : Shape := { sl := [(0, (.hole (.int .i64)))], bl := [], ts := [(.int .i64)], pin := 0 }
abbrev so_chans_New : Shape := { sl := [(0, (.hole (.pair (.int .i64) (.pair .bool (.pair (.pair (.int .i64) (.pair (.int .i64) (.pair (.slice (.int .i64)) (.int .i64)))) (.pair (.int .i64) (.pair (.int .i64) (.pair (.slice (.pair (.int .i64) (.pair (.int .i64) (.int .i64)))) (.slice (.pair (.int .i64) (.pair (.int .i64) (.int .i64)))))))))))), (1, (.hole (.int .i64)))], bl := [], ts := [(.pair (.int .i64) (.pair .bool (.pair (.pair (.int .i64) (.pair (.int .i64) (.pair (.slice (.int .i64)) (.int .i64)))) (.pair (.int .i64) (.pair (.int .i64) (.pair (.slice (.pair (.int .i64) (.pair (.int .i64) (.int .i64)))) (.slice (.pair (.int .i64) (.pair (.int .i64) (.int .i64)))))))))), (.int .i64)], pin := 0 }
noncomputable def F_chans_New (x : (Int)) : Option ((Int × (Bool × ((Int × (Int × (List (Int) × Int))) × (Int × (Int × (List ((Int × (Int × Int))) × List ((Int × (Int × Int))))))))) × Int) :=
  bif (decide (x < (Int.negSucc 0))) then
    some (((0 : Int), (false, (((0 : Int), ((0 : Int), (([] : List Int), (0 : Int)))), ((0 : Int), ((0 : Int), (([] : List (Int × (Int × Int))), ([] : List (Int × (Int × Int))))))))), (2 : Int))
  else
    bif (decide (x > (3 : Int))) then
      some (((0 : Int), (false, (((0 : Int), ((0 : Int), (([] : List Int), (0 : Int)))), ((0 : Int), ((0 : Int), (([] : List (Int × (Int × Int))), ([] : List (Int × (Int × Int))))))))), (2 : Int))
    else
      ((F_ring_New (Max.max x (0 : Int)))).bind fun r3 =>
      some ((x, (false, (r3.1, ((0 : Int), ((0 : Int), (([] : List (Int × (Int × Int))), ([] : List (Int × (Int × Int))))))))), r3.2)
noncomputable def cx_chans_New : Ctx := { tb := mkTb T2.tbl, fx := [(48, [], Spec.shp si_ring_New so_ring_New F_ring_New)], sum := [], nt := 23, pin := 0, nr := true, ys := [] }
theorem F_chans_New_ok : Sound Try.prog 22 (Spec.shp si_chans_New so_chans_New F_chans_New) :=
  Sound.shp (C := cx_chans_New) (fn := Try.f22) (by kernel_rfl) (c := bodyOf Try.f22) (by kernel_rfl) (by decide) (ctxOK mixed tbl_ok rfl ⟨F_ring_New_ok, trivial⟩ trivial) (SumOK.of trivial) (by kernel_rfl) si_chans_New so_chans_New rfl (by decide) (by decide) rfl (by decide) rfl F_chans_New (fun x => by kernel_rfl)
abbrev si_ring_Right : Shape := { sl := [(0, (.hole (.pair (.int .i64) (.pair (.int .i64) (.pair (.slice (.int .i64)) (.int .i64))))))], bl := [], ts := [(.pair (.int .i64) (.pair (.int .i64) (.pair (.slice (.int .i64)) (.int .i64))))], pin := 0 }
abbrev so_ring_Right : Shape := { sl := [(0, (.hole .bool))], bl := [], ts := [.bool], pin := 0 }
noncomputable def F_ring_Right (x : ((Int × (Int × (List (Int) × Int))))) : Option (Bool) :=
  bif (decide (x.1 ≥ (0 : Int))) then
    bif (decide (x.1 ≤ (8 : Int))) then
      bif ((((List.length x.2.2.1) : Nat) : Int) == x.1) then
        bif (decide (x.2.2.2 ≥ (0 : Int))) then
          bif (decide (x.2.2.2 ≤ x.1)) then
            bif (decide (x.2.1 ≥ (0 : Int))) then
              some (decide (x.2.1 < (Max.max (1 : Int) x.1)))
            else
              some false
          else
            some false
        else
          some false
      else
        some false
    else
      some false
  else
    some false
noncomputable def cx_ring_Right : Ctx := { tb := mkTb T2.tbl, fx := [], sum := [], nt := 46, pin := 0, nr := true, ys := [] }
theorem F_ring_Right_ok : Sound Try.prog 59 (Spec.shp si_ring_Right so_ring_Right F_ring_Right) :=
  Sound.shp (C := cx_ring_Right) (fn := Try.f59) (by kernel_rfl) (c := bodyOf Try.f59) (by kernel_rfl) (by decide) (ctxOK mixed tbl_ok rfl trivial trivial) (SumOK.of trivial) (by kernel_rfl) si_ring_Right so_ring_Right rfl (by decide) (by decide) rfl (by decide) rfl F_ring_Right (fun x => by kernel_rfl)
abbrev si_ring_places_all : Shape := { sl := [(0, (.hole (.one (.pair (.int .i64) (.pair (.int .i64) (.pair (.slice (.int .i64)) (.int .i64)))))))], bl := [], ts := [(.one (.pair (.int .i64) (.pair (.int .i64) (.pair (.slice (.int .i64)) (.int .i64)))))], pin := 0 }
abbrev so_ring_places_all : Shape := { sl := [(0, (.fn 69 .nil (.cons (.ptr 0 []) .nil)))], bl := [.var (.hole (.one (.pair (.int .i64) (.pair (.int .i64) (.pair (.slice (.int .i64)) (.int .i64))))))], ts := [(.one (.pair (.int .i64) (.pair (.int .i64) (.pair (.slice (.int .i64)) (.int .i64)))))], pin := 0 }
noncomputable def F_ring_places_all (x : ((Int × (Int × (List (Int) × Int))))) : Option ((Int × (Int × (List (Int) × Int)))) :=
  some x
noncomputable def cx_ring_places_all : Ctx := { tb := mkTb T2.tbl, fx := [], sum := [], nt := 4, pin := 0, nr := true, ys := [] }
theorem F_ring_places_all_ok : Sound Try.prog 60 (Spec.shp si_ring_places_all so_ring_places_all F_ring_places_all) :=
  Sound.shp (C := cx_ring_places_all) (fn := Try.f60) (by kernel_rfl) (c := bodyOf Try.f60) (by kernel_rfl) (by decide) (ctxOK mixed tbl_ok rfl trivial trivial) (SumOK.of trivial) (by kernel_rfl) si_ring_places_all so_ring_places_all rfl (by decide) (by decide) rfl (by decide) rfl F_ring_places_all (fun x => by kernel_rfl)
abbrev si_ring_Items_r6 : Shape := { sl := [(4, (.ptr 0 [])), (12, (.hole (.int .i64)))], bl := [.var (.sl 1), .row (.int .i64)], ts := [(.int .i64), (.slice (.int .i64))], pin := 0 }
abbrev so_ring_Items_r6 : Shape := { sl := [(0, (.hole (.int .i64)))], bl := [.var (.sl 1), .row (.int .i64)], ts := [(.int .i64), (.slice (.int .i64))], pin := 1 }
noncomputable def F_ring_Items_r6 (x : (Int × List (Int))) : Option (Int × List (Int)) :=
  bif (Go.Proofs.Ytgnellpcphepjaa.VX.fits ((List.length x.2) + (List.length (x.1 :: ([] : List Int))))) then
    some ((0 : Int), (x.2 ++ (x.1 :: ([] : List Int))))
  else
    none
noncomputable def cx_ring_Items_r6 : Ctx := { tb := mkTb T2.tbl, fx := [], sum := [], nt := 18, pin := 1, nr := false, ys := [] }
theorem F_ring_Items_r6_ok : YSound Try.prog 2949126 [4] (Spec.rnd [4, 12] si_ring_Items_r6 so_ring_Items_r6 F_ring_Items_r6) :=
  YSound.rnd (C := cx_ring_Items_r6) (rt := ⟨rfPs (rfOf 6 Try.f45), rfAs (rfOf 6 Try.f45), rfBody (rfOf 6 Try.f45), 18⟩) (by kernel_rfl) (ctxOK mixed tbl_ok rfl trivial) (SumOK.of trivial) (SumOK.of trivial) rfl rfl [4] si_ring_Items_r6 so_ring_Items_r6 rfl (by decide) (by decide) rfl (fun y => ⟨_, rfl⟩) (of_decide_eq_true (by kernel_rfl)) (of_decide_eq_true (by kernel_rfl)) F_ring_Items_r6 (fun x => by kernel_rfl)
abbrev si_ring_places_at : Shape := { sl := [(0, (.hole (.one (.pair (.int .i64) (.pair (.int .i64) (.pair (.slice (.int .i64)) (.int .i64))))))), (1, (.hole (.int .i64)))], bl := [], ts := [(.one (.pair (.int .i64) (.pair (.int .i64) (.pair (.slice (.int .i64)) (.int .i64))))), (.int .i64)], pin := 0 }
abbrev so_ring_places_at : Shape := { sl := [(0, (.hole (.int .i64)))], bl := [], ts := [(.int .i64)], pin := 0 }
noncomputable def F_ring_places_at (x : ((Int × (Int × (List (Int) × Int))) × Int)) : Option (Int) :=
  bif (x.1.1 != (0 : Int)) then
    some (Int.tmod (Go.IntKind.wrap Go.IntKind.i64 (x.1.2.1 + x.2)) x.1.1)
  else
    none
noncomputable def cx_ring_places_at : Ctx := { tb := mkTb T2.tbl, fx := [], sum := [], nt := 14, pin := 0, nr := true, ys := [] }
theorem F_ring_places_at_ok : Sound Try.prog 67 (Spec.shp si_ring_places_at so_ring_places_at F_ring_places_at) :=
  Sound.shp (C := cx_ring_places_at) (fn := Try.f67) (by kernel_rfl) (c := bodyOf Try.f67) (by kernel_rfl) (by decide) (ctxOK mixed tbl_ok rfl trivial trivial) (SumOK.of trivial) (by kernel_rfl) si_ring_places_at so_ring_places_at rfl (by decide) (by decide) rfl (by decide) rfl F_ring_places_at (fun x => by kernel_rfl)
abbrev sh_ring_places_all_1_ring_Items_r6_2 : Shape := { sl := [(0, (.yl 0)), (1, (.ptr 1 [])), (6, (.hole (.int .i64))), (7, (.hole (.int .i64)))], bl := [.lp 2949126 [4] (.cons (.ptr 2 []) .nil), .var (.hole (.one (.pair (.int .i64) (.pair (.int .i64) (.pair (.slice (.int .i64)) (.int .i64)))))), .var (.sl 3), .row (.int .i64)], ts := [(.int .i64), (.int .i64), (.one (.pair (.int .i64) (.pair (.int .i64) (.pair (.slice (.int .i64)) (.int .i64))))), (.slice (.int .i64))], pin := 3 }
abbrev es_ring_places_all_1_ring_Items_r6_2 : List (ETag × Shape) := [(.ret, { sl := [], bl := [.lpt 2949126 [4] (.cons (.ptr 2 []) .nil), .var (.hole (.one (.pair (.int .i64) (.pair (.int .i64) (.pair (.slice (.int .i64)) (.int .i64)))))), .var (.sl 3), .row (.int .i64)], ts := [(.int .i64), (.one (.pair (.int .i64) (.pair (.int .i64) (.pair (.slice (.int .i64)) (.int .i64))))), (.slice (.int .i64))], pin := 3 }), (.exit 0, { sl := [], bl := [.lp 2949126 [4] (.cons (.ptr 2 []) .nil), .var (.hole (.one (.pair (.int .i64) (.pair (.int .i64) (.pair (.slice (.int .i64)) (.int .i64)))))), .var (.sl 3), .row (.int .i64)], ts := [(.one (.pair (.int .i64) (.pair (.int .i64) (.pair (.slice (.int .i64)) (.int .i64))))), (.slice (.int .i64))], pin := 3 })]
noncomputable def L_ring_places_all_1_ring_Items_r6_2 (x : (Int × Int × (Int × (Int × (List (Int) × Int))) × List (Int))) : Option ((Int × Int × (Int × (Int × (List (Int) × Int))) × List (Int)) ⊕ ((Int × (Int × (Int × (List (Int) × Int))) × List (Int)) ⊕ ((Int × (Int × (List (Int) × Int))) × List (Int)))) :=
  bif (decide (x.2.1 < x.1)) then
    ((F_ring_places_at (x.2.2.1, x.2.1))).bind fun r10 =>
    bif (Go.Proofs.Ytgnellpcphepjaa.VX.inb r10 (List.length x.2.2.1.2.2.1)) then
      ((F_ring_Items_r6 ((Go.Proofs.Ytgnellpcphepjaa.VX.getAt (0 : Int) x.2.2.1.2.2.1 (Go.Proofs.Ytgnellpcphepjaa.VX.toN r10)), x.2.2.2))).bind fun r11 =>
      bif (Go.Proofs.Ytgnellpcphepjaa.VX.eqI r11.1 (0 : Int)) then
        some (.inl (x.1, ((Go.IntKind.wrap Go.IntKind.i64 (x.2.1 + (1 : Int))), (x.2.2.1, r11.2))))
      else
        some (.inr (.inl (r11.1, (x.2.2.1, r11.2))))
    else
      none
  else
    some (.inr (.inr (x.2.2.1, x.2.2.2)))
noncomputable def cx_ring_places_all_1_ring_Items_r6_2 : Ctx := { tb := mkTb T2.tbl, fx := [(67, [], Spec.shp si_ring_places_at so_ring_places_at F_ring_places_at)], sum := [], nt := 22, pin := 3, nr := true, ys := [(2949126, [4], Spec.rnd [4, 12] { sl := [(4, (.ptr 0 [])), (12, (.hole (.int .i64)))], bl := [.var (.sl 1), .row (.int .i64)], ts := [(.int .i64), (.slice (.int .i64))], pin := 0 } { sl := [(0, (.hole (.int .i64)))], bl := [.var (.sl 1), .row (.int .i64)], ts := [(.int .i64), (.slice (.int .i64))], pin := 1 } F_ring_Items_r6)] }
theorem L_ring_places_all_1_ring_Items_r6_2_ok : CSound Try.prog ⟨22, 3, true⟩ (.loop (loopOf 2 Try.f69)) (pieceSpec sh_ring_places_all_1_ring_Items_r6_2 es_ring_places_all_1_ring_Items_r6_2 (loop L_ring_places_all_1_ring_Items_r6_2)) :=
  loop_sound (C := cx_ring_places_all_1_ring_Items_r6_2) (ctxOK mixed tbl_ok rfl ⟨F_ring_places_at_ok, trivial⟩ ⟨F_ring_Items_r6_ok, trivial⟩) (SumOK.of trivial) sh_ring_places_all_1_ring_Items_r6_2 es_ring_places_all_1_ring_Items_r6_2 rfl rfl L_ring_places_all_1_ring_Items_r6_2 (fun x => by kernel_rfl)
abbrev si_ring_places_all_1_ring_Items_r6 : Shape := { sl := [(0, (.yl 0)), (1, (.ptr 1 []))], bl := [.lp 2949126 [4] (.cons (.ptr 2 []) .nil), .var (.hole (.one (.pair (.int .i64) (.pair (.int .i64) (.pair (.slice (.int .i64)) (.int .i64)))))), .var (.sl 3), .row (.int .i64)], ts := [(.one (.pair (.int .i64) (.pair (.int .i64) (.pair (.slice (.int .i64)) (.int .i64))))), (.slice (.int .i64))], pin := 0 }
abbrev so_ring_places_all_1_ring_Items_r6 : Shape := { sl := [], bl := [.lpt 2949126 [4] (.cons (.ptr 2 []) .nil), .var (.hole (.one (.pair (.int .i64) (.pair (.int .i64) (.pair (.slice (.int .i64)) (.int .i64)))))), .var (.sl 3), .row (.int .i64)], ts := [(.int .i64), (.one (.pair (.int .i64) (.pair (.int .i64) (.pair (.slice (.int .i64)) (.int .i64))))), (.slice (.int .i64))], pin := 3 }
noncomputable def F_ring_places_all_1_ring_Items_r6 (x : ((Int × (Int × (List (Int) × Int))) × List (Int))) : Option (Int × (Int × (Int × (List (Int) × Int))) × List (Int)) :=
  ((loop L_ring_places_all_1_ring_Items_r6_2 (x.1.2.2.2, ((0 : Int), (x.1, x.2))))).bind fun r9 =>
  match r9 with
  | .inl y10 =>
    some (y10.1, (y10.2.1, y10.2.2))
  | .inr y10 =>
    some ((0 : Int), (y10.1, y10.2))
noncomputable def cx_ring_places_all_1_ring_Items_r6 : Ctx := { tb := mkTb T2.tbl, fx := [(67, [], Spec.shp si_ring_places_at so_ring_places_at F_ring_places_at)], sum := [(0, 2, pieceSpec sh_ring_places_all_1_ring_Items_r6_2 es_ring_places_all_1_ring_Items_r6_2 (loop L_ring_places_all_1_ring_Items_r6_2))], nt := 22, pin := 3, nr := true, ys := [(2949126, [4], Spec.rnd [4, 12] si_ring_Items_r6 so_ring_Items_r6 F_ring_Items_r6)] }
theorem F_ring_places_all_1_ring_Items_r6_ok : Sound Try.prog 69 (Spec.shp si_ring_places_all_1_ring_Items_r6 so_ring_places_all_1_ring_Items_r6 F_ring_places_all_1_ring_Items_r6) :=
  Sound.shp (C := cx_ring_places_all_1_ring_Items_r6) (fn := Try.f69) (by kernel_rfl) (c := bodyOf Try.f69) (by kernel_rfl) (by decide) (ctxOK mixed tbl_ok rfl ⟨F_ring_places_at_ok, trivial⟩ ⟨F_ring_Items_r6_ok, trivial⟩) (SumOK.of ⟨(pieces_one (d := .loop (loopOf 2 Try.f69)) (by kernel_rfl) L_ring_places_all_1_ring_Items_r6_2_ok), trivial⟩) (by kernel_rfl) si_ring_places_all_1_ring_Items_r6 so_ring_places_all_1_ring_Items_r6 rfl (by decide) (by decide) rfl (by decide) rfl F_ring_places_all_1_ring_Items_r6 (fun x => by kernel_rfl)
abbrev si_ring_Items : Shape := { sl := [(0, (.hole (.pair (.int .i64) (.pair (.int .i64) (.pair (.slice (.int .i64)) (.int .i64))))))], bl := [], ts := [(.pair (.int .i64) (.pair (.int .i64) (.pair (.slice (.int .i64)) (.int .i64))))], pin := 0 }
abbrev so_ring_Items : Shape := { sl := [(0, (.hole (.slice (.int .i64)))), (1, (.hole (.int .i64)))], bl := [], ts := [(.slice (.int .i64)), (.int .i64)], pin := 0 }
noncomputable def F_ring_Items (x : ((Int × (Int × (List (Int) × Int))))) : Option (List (Int) × Int) :=
  ((F_ring_Right x)).bind fun r6 =>
  bif (Bool.not r6) then
    some (([] : List Int), (1 : Int))
  else
    ((F_ring_places_all x)).bind fun r7 =>
    ((F_ring_places_all_1_ring_Items_r6 (r7, ([] : List Int)))).bind fun r8 =>
    bif (Go.Proofs.Ytgnellpcphepjaa.VX.eqI r8.1 (0 : Int)) then
      some (r8.2.2, (0 : Int))
    else
      bif (Go.Proofs.Ytgnellpcphepjaa.VX.eqI r8.1 (1 : Int)) then
        some (([] : List Int), (0 : Int))
      else
        none
noncomputable def cx_ring_Items : Ctx := { tb := mkTb T2.tbl, fx := [(59, [], Spec.shp si_ring_Right so_ring_Right F_ring_Right), (60, [], Spec.shp si_ring_places_all so_ring_places_all F_ring_places_all)], sum := [(3, 6, rangeSpec (rfF (rfOf 6 Try.f45)) 2949126 [4] [] [(69, [3949126], Spec.shp si_ring_places_all_1_ring_Items_r6 so_ring_places_all_1_ring_Items_r6 F_ring_places_all_1_ring_Items_r6)])], nt := 18, pin := 0, nr := true, ys := [] }
theorem F_ring_Items_ok : Sound Try.prog 45 (Spec.shp si_ring_Items so_ring_Items F_ring_Items) :=
  Sound.shp (C := cx_ring_Items) (fn := Try.f45) (by kernel_rfl) (c := bodyOf Try.f45) (by kernel_rfl) (by decide) (ctxOK mixed tbl_ok rfl ⟨F_ring_Right_ok, F_ring_places_all_ok, trivial⟩ trivial) (SumOK.of ⟨(pieces_one (d := rfOf 6 Try.f45) (by kernel_rfl) (range_at1 (c := rfOf 6 Try.f45) rfl (by kernel_rfl) F_ring_places_all_1_ring_Items_r6_ok [4] [])), trivial⟩) (by kernel_rfl) si_ring_Items so_ring_Items rfl (by decide) (by decide) rfl (by decide) rfl F_ring_Items (fun x => by kernel_rfl)
abbrev si_waits_isWait : Shape := { sl := [(0, (.hole (.pair (.int .i64) (.pair (.int .i64) (.int .i64)))))], bl := [], ts := [(.pair (.int .i64) (.pair (.int .i64) (.int .i64)))], pin := 0 }
abbrev so_waits_isWait : Shape := { sl := [(0, (.hole .bool))], bl := [], ts := [.bool], pin := 0 }
noncomputable def F_waits_isWait (x : ((Int × (Int × Int)))) : Option (Bool) :=
  bif (decide (x.1 ≥ (0 : Int))) then
    bif (decide (x.2.1 ≥ (0 : Int))) then
      some (decide (x.2.2 ≥ (0 : Int)))
    else
      some false
  else
    some false
noncomputable def cx_waits_isWait : Ctx := { tb := mkTb T2.tbl, fx := [], sum := [], nt := 16, pin := 0, nr := true, ys := [] }
theorem F_waits_isWait_ok : Sound Try.prog 53 (Spec.shp si_waits_isWait so_waits_isWait F_waits_isWait) :=
  Sound.shp (C := cx_waits_isWait) (fn := Try.f53) (by kernel_rfl) (c := bodyOf Try.f53) (by kernel_rfl) (by decide) (ctxOK mixed tbl_ok rfl trivial trivial) (SumOK.of trivial) (by kernel_rfl) si_waits_isWait so_waits_isWait rfl (by decide) (by decide) rfl (by decide) rfl F_waits_isWait (fun x => by kernel_rfl)
abbrev si_waits_Right_1 : Shape := { sl := [(0, (.hole (.pair (.int .i64) (.pair (.int .i64) (.int .i64)))))], bl := [], ts := [(.pair (.int .i64) (.pair (.int .i64) (.int .i64)))], pin := 0 }
abbrev so_waits_Right_1 : Shape := { sl := [(0, (.hole .bool))], bl := [], ts := [.bool], pin := 0 }
noncomputable def F_waits_Right_1 (x : ((Int × (Int × Int)))) : Option (Bool) :=
  ((F_waits_isWait x)).bind fun r11 =>
  some (Bool.not r11)
noncomputable def cx_waits_Right_1 : Ctx := { tb := mkTb T2.tbl, fx := [(53, [], Spec.shp si_waits_isWait so_waits_isWait F_waits_isWait)], sum := [], nt := 6, pin := 0, nr := true, ys := [] }
theorem F_waits_Right_1_ok : Sound Try.prog 62 (Spec.shp si_waits_Right_1 so_waits_Right_1 F_waits_Right_1) :=
  Sound.shp (C := cx_waits_Right_1) (fn := Try.f62) (by kernel_rfl) (c := bodyOf Try.f62) (by kernel_rfl) (by decide) (ctxOK mixed tbl_ok rfl ⟨F_waits_isWait_ok, trivial⟩ trivial) (SumOK.of trivial) (by kernel_rfl) si_waits_Right_1 so_waits_Right_1 rfl (by decide) (by decide) rfl (by decide) rfl F_waits_Right_1 (fun x => by kernel_rfl)
abbrev sh_slices_IndexFunc_api_Wait__waits_Right_1_3 : Shape := { sl := [(0, (.hole (.slice (.pair (.int .i64) (.pair (.int .i64) (.int .i64)))))), (1, (.fn 62 .nil .nil)), (7, (.hole (.int .i64))), (8, (.hole (.int .i64)))], bl := [], ts := [(.slice (.pair (.int .i64) (.pair (.int .i64) (.int .i64)))), (.int .i64), (.int .i64)], pin := 0 }
abbrev es_slices_IndexFunc_api_Wait__waits_Right_1_3 : List (ETag × Shape) := [(.ret, { sl := [(4, (.hole (.int .i64)))], bl := [], ts := [(.int .i64)], pin := 0 }), (.exit 0, { sl := [], bl := [], ts := [], pin := 0 })]
noncomputable def L_slices_IndexFunc_api_Wait__waits_Right_1_3 (x : (List ((Int × (Int × Int))) × Int × Int)) : Option ((List ((Int × (Int × Int))) × Int × Int) ⊕ ((Int) ⊕ Unit)) :=
  bif (decide (x.2.2 < x.2.1)) then
    bif (Go.Proofs.Ytgnellpcphepjaa.VX.inb x.2.2 (List.length x.1)) then
      ((F_waits_Right_1 (Go.Proofs.Ytgnellpcphepjaa.VX.getAt ((0 : Int), ((0 : Int), (0 : Int))) x.1 (Go.Proofs.Ytgnellpcphepjaa.VX.toN x.2.2)))).bind fun r10 =>
      bif r10 then
        some (.inr (.inl x.2.2))
      else
        some (.inl (x.1, (x.2.1, (Go.IntKind.wrap Go.IntKind.i64 (x.2.2 + (1 : Int))))))
    else
      none
  else
    some (.inr (.inr ()))
noncomputable def cx_slices_IndexFunc_api_Wait__waits_Right_1_3 : Ctx := { tb := mkTb T2.tbl, fx := [(62, [], Spec.shp si_waits_Right_1 so_waits_Right_1 F_waits_Right_1)], sum := [], nt := 19, pin := 0, nr := true, ys := [] }
theorem L_slices_IndexFunc_api_Wait__waits_Right_1_3_ok : CSound Try.prog ⟨19, 0, true⟩ (.loop (loopOf 3 Try.f63)) (pieceSpec sh_slices_IndexFunc_api_Wait__waits_Right_1_3 es_slices_IndexFunc_api_Wait__waits_Right_1_3 (loop L_slices_IndexFunc_api_Wait__waits_Right_1_3)) :=
  loop_sound (C := cx_slices_IndexFunc_api_Wait__waits_Right_1_3) (ctxOK mixed tbl_ok rfl ⟨F_waits_Right_1_ok, trivial⟩ trivial) (SumOK.of trivial) sh_slices_IndexFunc_api_Wait__waits_Right_1_3 es_slices_IndexFunc_api_Wait__waits_Right_1_3 rfl rfl L_slices_IndexFunc_api_Wait__waits_Right_1_3 (fun x => by kernel_rfl)
abbrev si_slices_IndexFunc_api_Wait__waits_Right_1 : Shape := { sl := [(0, (.hole (.slice (.pair (.int .i64) (.pair (.int .i64) (.int .i64)))))), (1, (.fn 62 .nil .nil))], bl := [], ts := [(.slice (.pair (.int .i64) (.pair (.int .i64) (.int .i64))))], pin := 0 }
abbrev so_slices_IndexFunc_api_Wait__waits_Right_1 : Shape := { sl := [(0, (.hole (.int .i64)))], bl := [], ts := [(.int .i64)], pin := 0 }
noncomputable def F_slices_IndexFunc_api_Wait__waits_Right_1 (x : (List ((Int × (Int × Int))))) : Option (Int) :=
  ((loop L_slices_IndexFunc_api_Wait__waits_Right_1_3 (x, ((((List.length x) : Nat) : Int), (0 : Int))))).bind fun r9 =>
  match r9 with
  | .inl y10 =>
    some y10
  | .inr y10 =>
    some (Int.negSucc 0)
noncomputable def cx_slices_IndexFunc_api_Wait__waits_Right_1 : Ctx := { tb := mkTb T2.tbl, fx := [(62, [], Spec.shp si_waits_Right_1 so_waits_Right_1 F_waits_Right_1)], sum := [(0, 3, pieceSpec sh_slices_IndexFunc_api_Wait__waits_Right_1_3 es_slices_IndexFunc_api_Wait__waits_Right_1_3 (loop L_slices_IndexFunc_api_Wait__waits_Right_1_3))], nt := 19, pin := 0, nr := true, ys := [] }
theorem F_slices_IndexFunc_api_Wait__waits_Right_1_ok : Sound Try.prog 63 (Spec.shp si_slices_IndexFunc_api_Wait__waits_Right_1 so_slices_IndexFunc_api_Wait__waits_Right_1 F_slices_IndexFunc_api_Wait__waits_Right_1) :=
  Sound.shp (C := cx_slices_IndexFunc_api_Wait__waits_Right_1) (fn := Try.f63) (by kernel_rfl) (c := bodyOf Try.f63) (by kernel_rfl) (by decide) (ctxOK mixed tbl_ok rfl ⟨F_waits_Right_1_ok, trivial⟩ trivial) (SumOK.of ⟨(pieces_one (d := .loop (loopOf 3 Try.f63)) (by kernel_rfl) L_slices_IndexFunc_api_Wait__waits_Right_1_3_ok), trivial⟩) (by kernel_rfl) si_slices_IndexFunc_api_Wait__waits_Right_1 so_slices_IndexFunc_api_Wait__waits_Right_1 rfl (by decide) (by decide) rfl (by decide) rfl F_slices_IndexFunc_api_Wait__waits_Right_1 (fun x => by kernel_rfl)
abbrev si_slices_ContainsFunc_api_Wait__waits_Right_1 : Shape := { sl := [(0, (.hole (.slice (.pair (.int .i64) (.pair (.int .i64) (.int .i64)))))), (1, (.fn 62 .nil .nil))], bl := [], ts := [(.slice (.pair (.int .i64) (.pair (.int .i64) (.int .i64))))], pin := 0 }
abbrev so_slices_ContainsFunc_api_Wait__waits_Right_1 : Shape := { sl := [(0, (.hole .bool))], bl := [], ts := [.bool], pin := 0 }
noncomputable def F_slices_ContainsFunc_api_Wait__waits_Right_1 (x : (List ((Int × (Int × Int))))) : Option (Bool) :=
  ((F_slices_IndexFunc_api_Wait__waits_Right_1 x)).bind fun r8 =>
  some (decide (r8 ≥ (0 : Int)))
noncomputable def cx_slices_ContainsFunc_api_Wait__waits_Right_1 : Ctx := { tb := mkTb T2.tbl, fx := [(63, [62], Spec.shp si_slices_IndexFunc_api_Wait__waits_Right_1 so_slices_IndexFunc_api_Wait__waits_Right_1 F_slices_IndexFunc_api_Wait__waits_Right_1)], sum := [], nt := 9, pin := 0, nr := true, ys := [] }
theorem F_slices_ContainsFunc_api_Wait__waits_Right_1_ok : Sound Try.prog 61 (Spec.shp si_slices_ContainsFunc_api_Wait__waits_Right_1 so_slices_ContainsFunc_api_Wait__waits_Right_1 F_slices_ContainsFunc_api_Wait__waits_Right_1) :=
  Sound.shp (C := cx_slices_ContainsFunc_api_Wait__waits_Right_1) (fn := Try.f61) (by kernel_rfl) (c := bodyOf Try.f61) (by kernel_rfl) (by decide) (ctxOK mixed tbl_ok rfl ⟨F_slices_IndexFunc_api_Wait__waits_Right_1_ok, trivial⟩ trivial) (SumOK.of trivial) (by kernel_rfl) si_slices_ContainsFunc_api_Wait__waits_Right_1 so_slices_ContainsFunc_api_Wait__waits_Right_1 rfl (by decide) (by decide) rfl (by decide) rfl F_slices_ContainsFunc_api_Wait__waits_Right_1 (fun x => by kernel_rfl)
abbrev sh_waits_met_4 : Shape := { sl := [(3, (.mp 0)), (7, (.hole (.slice (.pair (.int .i64) (.pair (.int .i64) (.int .i64)))))), (8, (.hole (.int .i64))), (9, (.hole (.int .i64)))], bl := [.mp (.pair (.int .i64) (.int .i64)) (.int .i64)], ts := [(.slice (.pair (.int .i64) (.pair (.int .i64) (.int .i64)))), (.int .i64), (.int .i64), (.slice (.pair (.pair (.int .i64) (.int .i64)) (.int .i64)))], pin := 0 }
abbrev es_waits_met_4 : List (ETag × Shape) := [(.exit 0, { sl := [(3, (.mp 0))], bl := [.mp (.pair (.int .i64) (.int .i64)) (.int .i64)], ts := [(.slice (.pair (.pair (.int .i64) (.int .i64)) (.int .i64)))], pin := 0 })]
noncomputable def L_waits_met_4 (x : (List ((Int × (Int × Int))) × Int × Int × List (((Int × Int) × Int)))) : Option ((List ((Int × (Int × Int))) × Int × Int × List (((Int × Int) × Int))) ⊕ ((List (((Int × Int) × Int))))) :=
  bif (decide (x.2.2.1 < x.2.1)) then
    bif (Go.Proofs.Ytgnellpcphepjaa.VX.inb x.2.2.1 (List.length x.1)) then
      bif (Go.Proofs.Ytgnellpcphepjaa.VX.inb (Go.Proofs.Ytgnellpcphepjaa.VX.natI (@Go.Proofs.Ytgnellpcphepjaa.VX.mpos ((Int × Int)) (Int) (Go.Proofs.Ytgnellpcphepjaa.VX.Ty.beq (.pair (.int .i64) (.int .i64))) ((Go.Proofs.Ytgnellpcphepjaa.VX.getAt ((0 : Int), ((0 : Int), (0 : Int))) x.1 (Go.Proofs.Ytgnellpcphepjaa.VX.toN x.2.2.1)).1, (Go.Proofs.Ytgnellpcphepjaa.VX.getAt ((0 : Int), ((0 : Int), (0 : Int))) x.1 (Go.Proofs.Ytgnellpcphepjaa.VX.toN x.2.2.1)).2.1) x.2.2.2)) (List.length (@Go.Proofs.Ytgnellpcphepjaa.VX.mput ((Int × Int)) (Int) (Go.Proofs.Ytgnellpcphepjaa.VX.Ty.beq (.pair (.int .i64) (.int .i64))) ((Go.Proofs.Ytgnellpcphepjaa.VX.getAt ((0 : Int), ((0 : Int), (0 : Int))) x.1 (Go.Proofs.Ytgnellpcphepjaa.VX.toN x.2.2.1)).1, (Go.Proofs.Ytgnellpcphepjaa.VX.getAt ((0 : Int), ((0 : Int), (0 : Int))) x.1 (Go.Proofs.Ytgnellpcphepjaa.VX.toN x.2.2.1)).2.1) (@Go.Proofs.Ytgnellpcphepjaa.VX.mlook ((Int × Int)) (Int) (Go.Proofs.Ytgnellpcphepjaa.VX.Ty.beq (.pair (.int .i64) (.int .i64))) (Go.Proofs.Ytgnellpcphepjaa.VX.Ty.zero (.int .i64)) ((Go.Proofs.Ytgnellpcphepjaa.VX.getAt ((0 : Int), ((0 : Int), (0 : Int))) x.1 (Go.Proofs.Ytgnellpcphepjaa.VX.toN x.2.2.1)).1, (Go.Proofs.Ytgnellpcphepjaa.VX.getAt ((0 : Int), ((0 : Int), (0 : Int))) x.1 (Go.Proofs.Ytgnellpcphepjaa.VX.toN x.2.2.1)).2.1) x.2.2.2) x.2.2.2))) then
        some (.inl (x.1, (x.2.1, ((Go.IntKind.wrap Go.IntKind.i64 (x.2.2.1 + (1 : Int))), (Go.Proofs.Ytgnellpcphepjaa.VX.mset (@Go.Proofs.Ytgnellpcphepjaa.VX.mput ((Int × Int)) (Int) (Go.Proofs.Ytgnellpcphepjaa.VX.Ty.beq (.pair (.int .i64) (.int .i64))) ((Go.Proofs.Ytgnellpcphepjaa.VX.getAt ((0 : Int), ((0 : Int), (0 : Int))) x.1 (Go.Proofs.Ytgnellpcphepjaa.VX.toN x.2.2.1)).1, (Go.Proofs.Ytgnellpcphepjaa.VX.getAt ((0 : Int), ((0 : Int), (0 : Int))) x.1 (Go.Proofs.Ytgnellpcphepjaa.VX.toN x.2.2.1)).2.1) (@Go.Proofs.Ytgnellpcphepjaa.VX.mlook ((Int × Int)) (Int) (Go.Proofs.Ytgnellpcphepjaa.VX.Ty.beq (.pair (.int .i64) (.int .i64))) (Go.Proofs.Ytgnellpcphepjaa.VX.Ty.zero (.int .i64)) ((Go.Proofs.Ytgnellpcphepjaa.VX.getAt ((0 : Int), ((0 : Int), (0 : Int))) x.1 (Go.Proofs.Ytgnellpcphepjaa.VX.toN x.2.2.1)).1, (Go.Proofs.Ytgnellpcphepjaa.VX.getAt ((0 : Int), ((0 : Int), (0 : Int))) x.1 (Go.Proofs.Ytgnellpcphepjaa.VX.toN x.2.2.1)).2.1) x.2.2.2) x.2.2.2) (Go.Proofs.Ytgnellpcphepjaa.VX.toN (Go.Proofs.Ytgnellpcphepjaa.VX.natI (@Go.Proofs.Ytgnellpcphepjaa.VX.mpos ((Int × Int)) (Int) (Go.Proofs.Ytgnellpcphepjaa.VX.Ty.beq (.pair (.int .i64) (.int .i64))) ((Go.Proofs.Ytgnellpcphepjaa.VX.getAt ((0 : Int), ((0 : Int), (0 : Int))) x.1 (Go.Proofs.Ytgnellpcphepjaa.VX.toN x.2.2.1)).1, (Go.Proofs.Ytgnellpcphepjaa.VX.getAt ((0 : Int), ((0 : Int), (0 : Int))) x.1 (Go.Proofs.Ytgnellpcphepjaa.VX.toN x.2.2.1)).2.1) x.2.2.2))) (Go.IntKind.wrap Go.IntKind.i64 ((@Go.Proofs.Ytgnellpcphepjaa.VX.mlook ((Int × Int)) (Int) (Go.Proofs.Ytgnellpcphepjaa.VX.Ty.beq (.pair (.int .i64) (.int .i64))) (Go.Proofs.Ytgnellpcphepjaa.VX.Ty.zero (.int .i64)) ((Go.Proofs.Ytgnellpcphepjaa.VX.getAt ((0 : Int), ((0 : Int), (0 : Int))) x.1 (Go.Proofs.Ytgnellpcphepjaa.VX.toN x.2.2.1)).1, (Go.Proofs.Ytgnellpcphepjaa.VX.getAt ((0 : Int), ((0 : Int), (0 : Int))) x.1 (Go.Proofs.Ytgnellpcphepjaa.VX.toN x.2.2.1)).2.1) x.2.2.2) + (1 : Int))))))))
      else
        none
    else
      none
  else
    some (.inr x.2.2.2)
noncomputable def cx_waits_met_4 : Ctx := { tb := mkTb T2.tbl, fx := [], sum := [], nt := 25, pin := 0, nr := true, ys := [] }
theorem L_waits_met_4_ok : CSound Try.prog ⟨25, 0, true⟩ (.loop (loopOf 4 Try.f54)) (pieceSpec sh_waits_met_4 es_waits_met_4 (loop L_waits_met_4)) :=
  loop_sound (C := cx_waits_met_4) (ctxOK mixed tbl_ok rfl trivial trivial) (SumOK.of trivial) sh_waits_met_4 es_waits_met_4 rfl rfl L_waits_met_4 (fun x => by kernel_rfl)
abbrev si_waits_met : Shape := { sl := [(0, (.hole (.slice (.pair (.int .i64) (.pair (.int .i64) (.int .i64))))))], bl := [], ts := [(.slice (.pair (.int .i64) (.pair (.int .i64) (.int .i64))))], pin := 0 }
abbrev so_waits_met : Shape := { sl := [(0, (.mp 0))], bl := [.mp (.pair (.int .i64) (.int .i64)) (.int .i64)], ts := [(.slice (.pair (.pair (.int .i64) (.int .i64)) (.int .i64)))], pin := 0 }
noncomputable def F_waits_met (x : (List ((Int × (Int × Int))))) : Option (List (((Int × Int) × Int))) :=
  ((loop L_waits_met_4 (x, ((((List.length x) : Nat) : Int), ((0 : Int), ([] : List ((Int × Int) × Int))))))).bind fun r9 =>
  some r9
noncomputable def cx_waits_met : Ctx := { tb := mkTb T2.tbl, fx := [], sum := [(0, 4, pieceSpec sh_waits_met_4 es_waits_met_4 (loop L_waits_met_4))], nt := 25, pin := 0, nr := true, ys := [] }
theorem F_waits_met_ok : Sound Try.prog 54 (Spec.shp si_waits_met so_waits_met F_waits_met) :=
  Sound.shp (C := cx_waits_met) (fn := Try.f54) (by kernel_rfl) (c := bodyOf Try.f54) (by kernel_rfl) (by decide) (ctxOK mixed tbl_ok rfl trivial trivial) (SumOK.of ⟨(pieces_one (d := .loop (loopOf 4 Try.f54)) (by kernel_rfl) L_waits_met_4_ok), trivial⟩) (by kernel_rfl) si_waits_met so_waits_met rfl (by decide) (by decide) rfl (by decide) rfl F_waits_met (fun x => by kernel_rfl)
abbrev si_waits_Right : Shape := { sl := [(0, (.hole (.slice (.pair (.int .i64) (.pair (.int .i64) (.int .i64))))))], bl := [], ts := [(.slice (.pair (.int .i64) (.pair (.int .i64) (.int .i64))))], pin := 0 }
abbrev so_waits_Right : Shape := { sl := [(0, (.hole .bool))], bl := [], ts := [.bool], pin := 0 }
noncomputable def F_waits_Right (x : (List ((Int × (Int × Int))))) : Option (Bool) :=
  ((F_slices_ContainsFunc_api_Wait__waits_Right_1 x)).bind fun r7 =>
  bif r7 then
    some false
  else
    bif (decide ((((List.length x) : Nat) : Int) ≤ (64 : Int))) then
      ((F_waits_met x)).bind fun r8 =>
      some ((((List.length r8) : Nat) : Int) == (((List.length x) : Nat) : Int))
    else
      some false
noncomputable def cx_waits_Right : Ctx := { tb := mkTb T2.tbl, fx := [(61, [62], Spec.shp si_slices_ContainsFunc_api_Wait__waits_Right_1 so_slices_ContainsFunc_api_Wait__waits_Right_1 F_slices_ContainsFunc_api_Wait__waits_Right_1), (54, [], Spec.shp si_waits_met so_waits_met F_waits_met)], sum := [], nt := 16, pin := 0, nr := true, ys := [] }
theorem F_waits_Right_ok : Sound Try.prog 46 (Spec.shp si_waits_Right so_waits_Right F_waits_Right) :=
  Sound.shp (C := cx_waits_Right) (fn := Try.f46) (by kernel_rfl) (c := bodyOf Try.f46) (by kernel_rfl) (by decide) (ctxOK mixed tbl_ok rfl ⟨F_slices_ContainsFunc_api_Wait__waits_Right_1_ok, F_waits_met_ok, trivial⟩ trivial) (SumOK.of trivial) (by kernel_rfl) si_waits_Right so_waits_Right rfl (by decide) (by decide) rfl (by decide) rfl F_waits_Right (fun x => by kernel_rfl)
abbrev sh_chans_numbers_3 : Shape := { sl := [(0, (.hole (.slice (.int .i64)))), (1, (.hole (.int .i64))), (2, (.hole (.int .i64))), (9, (.hole (.slice (.int .i64)))), (10, (.hole (.int .i64))), (11, (.hole (.int .i64)))], bl := [], ts := [(.slice (.int .i64)), (.int .i64), (.int .i64), (.slice (.int .i64)), (.int .i64), (.int .i64)], pin := 0 }
abbrev es_chans_numbers_3 : List (ETag × Shape) := [(.ret, { sl := [(6, (.hole .bool))], bl := [], ts := [.bool], pin := 0 }), (.exit 0, { sl := [(0, (.hole (.slice (.int .i64)))), (1, (.hole (.int .i64))), (2, (.hole (.int .i64)))], bl := [], ts := [(.slice (.int .i64)), (.int .i64), (.int .i64)], pin := 0 })]
noncomputable def L_chans_numbers_3 (x : (List (Int) × Int × Int × List (Int) × Int × Int)) : Option ((List (Int) × Int × Int × List (Int) × Int × Int) ⊕ ((Bool) ⊕ (List (Int) × Int × Int))) :=
  bif (decide (x.2.2.2.2.2 < x.2.2.2.2.1)) then
    bif (Go.Proofs.Ytgnellpcphepjaa.VX.inb x.2.2.2.2.2 (List.length x.2.2.2.1)) then
      bif ((Go.Proofs.Ytgnellpcphepjaa.VX.getAt (0 : Int) x.2.2.2.1 (Go.Proofs.Ytgnellpcphepjaa.VX.toN x.2.2.2.2.2)) != (Go.IntKind.wrap Go.IntKind.i64 (x.2.1 + x.2.2.2.2.2))) then
        some (.inr (.inl false))
      else
        some (.inl (x.1, (x.2.1, (x.2.2.1, (x.2.2.2.1, (x.2.2.2.2.1, (Go.IntKind.wrap Go.IntKind.i64 (x.2.2.2.2.2 + (1 : Int)))))))))
    else
      none
  else
    some (.inr (.inr (x.1, (x.2.1, x.2.2.1))))
noncomputable def cx_chans_numbers_3 : Ctx := { tb := mkTb T2.tbl, fx := [], sum := [], nt := 28, pin := 0, nr := true, ys := [] }
theorem L_chans_numbers_3_ok : CSound Try.prog ⟨28, 0, true⟩ (.loop (loopOf 3 Try.f47)) (pieceSpec sh_chans_numbers_3 es_chans_numbers_3 (loop L_chans_numbers_3)) :=
  loop_sound (C := cx_chans_numbers_3) (ctxOK mixed tbl_ok rfl trivial trivial) (SumOK.of trivial) sh_chans_numbers_3 es_chans_numbers_3 rfl rfl L_chans_numbers_3 (fun x => by kernel_rfl)
abbrev si_chans_numbers : Shape := { sl := [(0, (.hole (.slice (.int .i64)))), (1, (.hole (.int .i64))), (2, (.hole (.int .i64)))], bl := [], ts := [(.slice (.int .i64)), (.int .i64), (.int .i64)], pin := 0 }
abbrev so_chans_numbers : Shape := { sl := [(0, (.hole .bool))], bl := [], ts := [.bool], pin := 0 }
noncomputable def F_chans_numbers (x : (List (Int) × Int × Int)) : Option (Bool) :=
  ((loop L_chans_numbers_3 (x.1, (x.2.1, (x.2.2, (x.1, ((((List.length x.1) : Nat) : Int), (0 : Int)))))))).bind fun r9 =>
  match r9 with
  | .inl y10 =>
    some y10
  | .inr y10 =>
    some ((((List.length y10.1) : Nat) : Int) == (Go.IntKind.wrap Go.IntKind.i64 (y10.2.2 - y10.2.1)))
noncomputable def cx_chans_numbers : Ctx := { tb := mkTb T2.tbl, fx := [], sum := [(0, 3, pieceSpec sh_chans_numbers_3 es_chans_numbers_3 (loop L_chans_numbers_3))], nt := 28, pin := 0, nr := true, ys := [] }
theorem F_chans_numbers_ok : Sound Try.prog 47 (Spec.shp si_chans_numbers so_chans_numbers F_chans_numbers) :=
  Sound.shp (C := cx_chans_numbers) (fn := Try.f47) (by kernel_rfl) (c := bodyOf Try.f47) (by kernel_rfl) (by decide) (ctxOK mixed tbl_ok rfl trivial trivial) (SumOK.of ⟨(pieces_one (d := .loop (loopOf 3 Try.f47)) (by kernel_rfl) L_chans_numbers_3_ok), trivial⟩) (by kernel_rfl) si_chans_numbers so_chans_numbers rfl (by decide) (by decide) rfl (by decide) rfl F_chans_numbers (fun x => by kernel_rfl)
abbrev si_chans_Right : Shape := { sl := [(0, (.hole (.pair (.int .i64) (.pair .bool (.pair (.pair (.int .i64) (.pair (.int .i64) (.pair (.slice (.int .i64)) (.int .i64)))) (.pair (.int .i64) (.pair (.int .i64) (.pair (.slice (.pair (.int .i64) (.pair (.int .i64) (.int .i64)))) (.slice (.pair (.int .i64) (.pair (.int .i64) (.int .i64))))))))))))], bl := [], ts := [(.pair (.int .i64) (.pair .bool (.pair (.pair (.int .i64) (.pair (.int .i64) (.pair (.slice (.int .i64)) (.int .i64)))) (.pair (.int .i64) (.pair (.int .i64) (.pair (.slice (.pair (.int .i64) (.pair (.int .i64) (.int .i64)))) (.slice (.pair (.int .i64) (.pair (.int .i64) (.int .i64))))))))))], pin := 0 }
abbrev so_chans_Right : Shape := { sl := [(0, (.hole .bool))], bl := [], ts := [.bool], pin := 0 }
noncomputable def F_chans_Right (x : ((Int × (Bool × ((Int × (Int × (List (Int) × Int))) × (Int × (Int × (List ((Int × (Int × Int))) × List ((Int × (Int × Int))))))))))) : Option (Bool) :=
  ((F_ring_Items x.2.2.1)).bind fun r5 =>
  bif (r5.2 != (0 : Int)) then
    some false
  else
    bif (decide (x.1 < (Int.negSucc 0))) then
      some false
    else
      bif (decide (x.1 > (3 : Int))) then
        some false
      else
        bif (x.2.2.1.1 != (Max.max x.1 (0 : Int))) then
          some false
        else
          ((F_waits_Right x.2.2.2.2.2.1)).bind fun r6 =>
          bif (Bool.not r6) then
            some false
          else
            ((F_waits_Right x.2.2.2.2.2.2)).bind fun r7 =>
            bif (Bool.not r7) then
              some false
            else
              bif (decide (x.2.2.2.1 < (0 : Int))) then
                some false
              else
                bif (decide (x.2.2.2.1 > (1048576 : Int))) then
                  some false
                else
                  bif (decide (x.2.2.2.2.1 < (0 : Int))) then
                    some false
                  else
                    bif (decide (x.2.2.2.2.1 > x.2.2.2.1)) then
                      some false
                    else
                      ((F_chans_numbers (r5.1, (x.2.2.2.2.1, x.2.2.2.1)))).bind fun r8 =>
                      bif (Bool.not r8) then
                        some false
                      else
                        bif (decide (x.1 < (0 : Int))) then
                          bif (Bool.not x.2.1) then
                            bif (x.2.2.2.1 == (0 : Int)) then
                              bif (Bool.not (decide ((((List.length x.2.2.2.2.2.1) : Nat) : Int) > (0 : Int)))) then
                                some (Bool.not (decide ((((List.length x.2.2.2.2.2.2) : Nat) : Int) > (0 : Int))))
                              else
                                some false
                            else
                              some false
                          else
                            some false
                        else
                          bif x.2.1 then
                            bif (Bool.not (decide ((((List.length x.2.2.2.2.2.1) : Nat) : Int) > (0 : Int)))) then
                              some (Bool.not (decide ((((List.length x.2.2.2.2.2.2) : Nat) : Int) > (0 : Int))))
                            else
                              some false
                          else
                            bif (Bool.not (decide ((((List.length x.2.2.2.2.2.1) : Nat) : Int) > (0 : Int)))) then
                              bif (Bool.not (decide ((((List.length x.2.2.2.2.2.2) : Nat) : Int) > (0 : Int)))) then
                                some true
                              else
                                some ((((List.length r5.1) : Nat) : Int) == (0 : Int))
                            else
                              bif ((((List.length r5.1) : Nat) : Int) == x.1) then
                                bif (Bool.not (decide ((((List.length x.2.2.2.2.2.2) : Nat) : Int) > (0 : Int)))) then
                                  some true
                                else
                                  some ((((List.length r5.1) : Nat) : Int) == (0 : Int))
                              else
                                some false
noncomputable def cx_chans_Right : Ctx := { tb := mkTb T2.tbl, fx := [(45, [], Spec.shp si_ring_Items so_ring_Items F_ring_Items), (46, [], Spec.shp si_waits_Right so_waits_Right F_waits_Right), (47, [], Spec.shp si_chans_numbers so_chans_numbers F_chans_numbers)], sum := [], nt := 130, pin := 0, nr := true, ys := [] }
theorem F_chans_Right_ok : Sound Try.prog 20 (Spec.shp si_chans_Right so_chans_Right F_chans_Right) :=
  Sound.shp (C := cx_chans_Right) (fn := Try.f20) (by kernel_rfl) (c := bodyOf Try.f20) (by kernel_rfl) (by decide) (ctxOK mixed tbl_ok rfl ⟨F_ring_Items_ok, F_waits_Right_ok, F_chans_numbers_ok, trivial⟩ trivial) (SumOK.of trivial) (by kernel_rfl) si_chans_Right so_chans_Right rfl (by decide) (by decide) rfl (by decide) rfl F_chans_Right (fun x => by kernel_rfl)
abbrev si_chans_work_isNil : Shape := { sl := [(0, (.ptr 0 []))], bl := [.var (.hole (.pair (.pair (.int .i64) (.pair .bool (.pair (.pair (.int .i64) (.pair (.int .i64) (.pair (.slice (.int .i64)) (.int .i64)))) (.pair (.int .i64) (.pair (.int .i64) (.pair (.slice (.pair (.int .i64) (.pair (.int .i64) (.int .i64)))) (.slice (.pair (.int .i64) (.pair (.int .i64) (.int .i64)))))))))) (.int .i64)))], ts := [(.pair (.pair (.int .i64) (.pair .bool (.pair (.pair (.int .i64) (.pair (.int .i64) (.pair (.slice (.int .i64)) (.int .i64)))) (.pair (.int .i64) (.pair (.int .i64) (.pair (.slice (.pair (.int .i64) (.pair (.int .i64) (.int .i64)))) (.slice (.pair (.int .i64) (.pair (.int .i64) (.int .i64)))))))))) (.int .i64))], pin := 0 }
abbrev so_chans_work_isNil : Shape := { sl := [(0, (.hole .bool))], bl := [.var (.hole (.pair (.pair (.int .i64) (.pair .bool (.pair (.pair (.int .i64) (.pair (.int .i64) (.pair (.slice (.int .i64)) (.int .i64)))) (.pair (.int .i64) (.pair (.int .i64) (.pair (.slice (.pair (.int .i64) (.pair (.int .i64) (.int .i64)))) (.slice (.pair (.int .i64) (.pair (.int .i64) (.int .i64)))))))))) (.int .i64)))], ts := [.bool, (.pair (.pair (.int .i64) (.pair .bool (.pair (.pair (.int .i64) (.pair (.int .i64) (.pair (.slice (.int .i64)) (.int .i64)))) (.pair (.int .i64) (.pair (.int .i64) (.pair (.slice (.pair (.int .i64) (.pair (.int .i64) (.int .i64)))) (.slice (.pair (.int .i64) (.pair (.int .i64) (.int .i64)))))))))) (.int .i64))], pin := 1 }
noncomputable def F_chans_work_isNil (x : (((Int × (Bool × ((Int × (Int × (List (Int) × Int))) × (Int × (Int × (List ((Int × (Int × Int))) × List ((Int × (Int × Int))))))))) × Int))) : Option (Bool × ((Int × (Bool × ((Int × (Int × (List (Int) × Int))) × (Int × (Int × (List ((Int × (Int × Int))) × List ((Int × (Int × Int))))))))) × Int)) :=
  some ((decide (x.1.1 < (0 : Int))), x)
noncomputable def cx_chans_work_isNil : Ctx := { tb := mkTb T2.tbl, fx := [], sum := [], nt := 9, pin := 1, nr := true, ys := [] }
theorem F_chans_work_isNil_ok : Sound Try.prog 30 (Spec.shp si_chans_work_isNil so_chans_work_isNil F_chans_work_isNil) :=
  Sound.shp (C := cx_chans_work_isNil) (fn := Try.f30) (by kernel_rfl) (c := bodyOf Try.f30) (by kernel_rfl) (by decide) (ctxOK mixed tbl_ok rfl trivial trivial) (SumOK.of trivial) (by kernel_rfl) si_chans_work_isNil so_chans_work_isNil rfl (by decide) (by decide) rfl (by decide) rfl F_chans_work_isNil (fun x => by kernel_rfl)
abbrev si_chans_work_full : Shape := { sl := [(0, (.ptr 0 []))], bl := [.var (.hole (.pair (.pair (.int .i64) (.pair .bool (.pair (.pair (.int .i64) (.pair (.int .i64) (.pair (.slice (.int .i64)) (.int .i64)))) (.pair (.int .i64) (.pair (.int .i64) (.pair (.slice (.pair (.int .i64) (.pair (.int .i64) (.int .i64)))) (.slice (.pair (.int .i64) (.pair (.int .i64) (.int .i64)))))))))) (.int .i64)))], ts := [(.pair (.pair (.int .i64) (.pair .bool (.pair (.pair (.int .i64) (.pair (.int .i64) (.pair (.slice (.int .i64)) (.int .i64)))) (.pair (.int .i64) (.pair (.int .i64) (.pair (.slice (.pair (.int .i64) (.pair (.int .i64) (.int .i64)))) (.slice (.pair (.int .i64) (.pair (.int .i64) (.int .i64)))))))))) (.int .i64))], pin := 0 }
abbrev so_chans_work_full : Shape := { sl := [(0, (.hole .bool))], bl := [.var (.hole (.pair (.pair (.int .i64) (.pair .bool (.pair (.pair (.int .i64) (.pair (.int .i64) (.pair (.slice (.int .i64)) (.int .i64)))) (.pair (.int .i64) (.pair (.int .i64) (.pair (.slice (.pair (.int .i64) (.pair (.int .i64) (.int .i64)))) (.slice (.pair (.int .i64) (.pair (.int .i64) (.int .i64)))))))))) (.int .i64)))], ts := [.bool, (.pair (.pair (.int .i64) (.pair .bool (.pair (.pair (.int .i64) (.pair (.int .i64) (.pair (.slice (.int .i64)) (.int .i64)))) (.pair (.int .i64) (.pair (.int .i64) (.pair (.slice (.pair (.int .i64) (.pair (.int .i64) (.int .i64)))) (.slice (.pair (.int .i64) (.pair (.int .i64) (.int .i64)))))))))) (.int .i64))], pin := 1 }
noncomputable def F_chans_work_full (x : (((Int × (Bool × ((Int × (Int × (List (Int) × Int))) × (Int × (Int × (List ((Int × (Int × Int))) × List ((Int × (Int × Int))))))))) × Int))) : Option (Bool × ((Int × (Bool × ((Int × (Int × (List (Int) × Int))) × (Int × (Int × (List ((Int × (Int × Int))) × List ((Int × (Int × Int))))))))) × Int)) :=
  some ((x.1.2.2.1.2.2.2 == x.1.2.2.1.1), x)
noncomputable def cx_chans_work_full : Ctx := { tb := mkTb T2.tbl, fx := [], sum := [], nt := 16, pin := 1, nr := true, ys := [] }
theorem F_chans_work_full_ok : Sound Try.prog 31 (Spec.shp si_chans_work_full so_chans_work_full F_chans_work_full) :=
  Sound.shp (C := cx_chans_work_full) (fn := Try.f31) (by kernel_rfl) (c := bodyOf Try.f31) (by kernel_rfl) (by decide) (ctxOK mixed tbl_ok rfl trivial trivial) (SumOK.of trivial) (by kernel_rfl) si_chans_work_full so_chans_work_full rfl (by decide) (by decide) rfl (by decide) rfl F_chans_work_full (fun x => by kernel_rfl)
abbrev si_waits_First_1 : Shape := { sl := [(0, (.hole (.pair (.int .i64) (.pair (.int .i64) (.int .i64))))), (1, (.ptr 0 []))], bl := [.var (.hole (.int .i64))], ts := [(.pair (.int .i64) (.pair (.int .i64) (.int .i64))), (.int .i64)], pin := 0 }
abbrev so_waits_First_1 : Shape := { sl := [(0, (.hole .bool))], bl := [.var (.hole (.int .i64))], ts := [.bool, (.int .i64)], pin := 1 }
noncomputable def F_waits_First_1 (x : ((Int × (Int × Int)) × Int)) : Option (Bool × Int) :=
  some ((x.1.1 != x.2), x.2)
noncomputable def cx_waits_First_1 : Ctx := { tb := mkTb T2.tbl, fx := [], sum := [], nt := 8, pin := 1, nr := true, ys := [] }
theorem F_waits_First_1_ok : Sound Try.prog 64 (Spec.shp si_waits_First_1 so_waits_First_1 F_waits_First_1) :=
  Sound.shp (C := cx_waits_First_1) (fn := Try.f64) (by kernel_rfl) (c := bodyOf Try.f64) (by kernel_rfl) (by decide) (ctxOK mixed tbl_ok rfl trivial trivial) (SumOK.of trivial) (by kernel_rfl) si_waits_First_1 so_waits_First_1 rfl (by decide) (by decide) rfl (by decide) rfl F_waits_First_1 (fun x => by kernel_rfl)
abbrev sh_slices_IndexFunc_api_Wait__waits_First_1_3 : Shape := { sl := [(0, (.hole (.slice (.pair (.int .i64) (.pair (.int .i64) (.int .i64)))))), (1, (.fn 64 .nil (.cons (.ptr 0 []) .nil))), (7, (.hole (.int .i64))), (8, (.hole (.int .i64)))], bl := [.var (.hole (.int .i64))], ts := [(.slice (.pair (.int .i64) (.pair (.int .i64) (.int .i64)))), (.int .i64), (.int .i64), (.int .i64)], pin := 1 }
abbrev es_slices_IndexFunc_api_Wait__waits_First_1_3 : List (ETag × Shape) := [(.ret, { sl := [(4, (.hole (.int .i64)))], bl := [.var (.hole (.int .i64))], ts := [(.int .i64), (.int .i64)], pin := 1 }), (.exit 0, { sl := [], bl := [.var (.hole (.int .i64))], ts := [(.int .i64)], pin := 1 })]
noncomputable def L_slices_IndexFunc_api_Wait__waits_First_1_3 (x : (List ((Int × (Int × Int))) × Int × Int × Int)) : Option ((List ((Int × (Int × Int))) × Int × Int × Int) ⊕ ((Int × Int) ⊕ (Int))) :=
  bif (decide (x.2.2.1 < x.2.1)) then
    bif (Go.Proofs.Ytgnellpcphepjaa.VX.inb x.2.2.1 (List.length x.1)) then
      ((F_waits_First_1 ((Go.Proofs.Ytgnellpcphepjaa.VX.getAt ((0 : Int), ((0 : Int), (0 : Int))) x.1 (Go.Proofs.Ytgnellpcphepjaa.VX.toN x.2.2.1)), x.2.2.2))).bind fun r12 =>
      bif r12.1 then
        some (.inr (.inl (x.2.2.1, r12.2)))
      else
        some (.inl (x.1, (x.2.1, ((Go.IntKind.wrap Go.IntKind.i64 (x.2.2.1 + (1 : Int))), r12.2))))
    else
      none
  else
    some (.inr (.inr x.2.2.2))
noncomputable def cx_slices_IndexFunc_api_Wait__waits_First_1_3 : Ctx := { tb := mkTb T2.tbl, fx := [(64, [], Spec.shp si_waits_First_1 so_waits_First_1 F_waits_First_1)], sum := [], nt := 19, pin := 1, nr := true, ys := [] }
theorem L_slices_IndexFunc_api_Wait__waits_First_1_3_ok : CSound Try.prog ⟨19, 1, true⟩ (.loop (loopOf 3 Try.f63)) (pieceSpec sh_slices_IndexFunc_api_Wait__waits_First_1_3 es_slices_IndexFunc_api_Wait__waits_First_1_3 (loop L_slices_IndexFunc_api_Wait__waits_First_1_3)) :=
  loop_sound (C := cx_slices_IndexFunc_api_Wait__waits_First_1_3) (ctxOK mixed tbl_ok rfl ⟨F_waits_First_1_ok, trivial⟩ trivial) (SumOK.of trivial) sh_slices_IndexFunc_api_Wait__waits_First_1_3 es_slices_IndexFunc_api_Wait__waits_First_1_3 rfl rfl L_slices_IndexFunc_api_Wait__waits_First_1_3 (fun x => by kernel_rfl)
abbrev si_slices_IndexFunc_api_Wait__waits_First_1 : Shape := { sl := [(0, (.hole (.slice (.pair (.int .i64) (.pair (.int .i64) (.int .i64)))))), (1, (.fn 64 .nil (.cons (.ptr 0 []) .nil)))], bl := [.var (.hole (.int .i64))], ts := [(.slice (.pair (.int .i64) (.pair (.int .i64) (.int .i64)))), (.int .i64)], pin := 0 }
abbrev so_slices_IndexFunc_api_Wait__waits_First_1 : Shape := { sl := [(0, (.hole (.int .i64)))], bl := [.var (.hole (.int .i64))], ts := [(.int .i64), (.int .i64)], pin := 1 }
noncomputable def F_slices_IndexFunc_api_Wait__waits_First_1 (x : (List ((Int × (Int × Int))) × Int)) : Option (Int × Int) :=
  ((loop L_slices_IndexFunc_api_Wait__waits_First_1_3 (x.1, ((((List.length x.1) : Nat) : Int), ((0 : Int), x.2))))).bind fun r11 =>
  match r11 with
  | .inl y12 =>
    some (y12.1, y12.2)
  | .inr y12 =>
    some ((Int.negSucc 0), y12)
noncomputable def cx_slices_IndexFunc_api_Wait__waits_First_1 : Ctx := { tb := mkTb T2.tbl, fx := [(64, [], Spec.shp si_waits_First_1 so_waits_First_1 F_waits_First_1)], sum := [(0, 3, pieceSpec sh_slices_IndexFunc_api_Wait__waits_First_1_3 es_slices_IndexFunc_api_Wait__waits_First_1_3 (loop L_slices_IndexFunc_api_Wait__waits_First_1_3))], nt := 19, pin := 1, nr := true, ys := [] }
theorem F_slices_IndexFunc_api_Wait__waits_First_1_ok : Sound Try.prog 63 (Spec.shp si_slices_IndexFunc_api_Wait__waits_First_1 so_slices_IndexFunc_api_Wait__waits_First_1 F_slices_IndexFunc_api_Wait__waits_First_1) :=
  Sound.shp (C := cx_slices_IndexFunc_api_Wait__waits_First_1) (fn := Try.f63) (by kernel_rfl) (c := bodyOf Try.f63) (by kernel_rfl) (by decide) (ctxOK mixed tbl_ok rfl ⟨F_waits_First_1_ok, trivial⟩ trivial) (SumOK.of ⟨(pieces_one (d := .loop (loopOf 3 Try.f63)) (by kernel_rfl) L_slices_IndexFunc_api_Wait__waits_First_1_3_ok), trivial⟩) (by kernel_rfl) si_slices_IndexFunc_api_Wait__waits_First_1 so_slices_IndexFunc_api_Wait__waits_First_1 rfl (by decide) (by decide) rfl (by decide) rfl F_slices_IndexFunc_api_Wait__waits_First_1 (fun x => by kernel_rfl)
abbrev si_waits_First : Shape := { sl := [(0, (.hole (.slice (.pair (.int .i64) (.pair (.int .i64) (.int .i64)))))), (1, (.hole (.int .i64)))], bl := [], ts := [(.slice (.pair (.int .i64) (.pair (.int .i64) (.int .i64)))), (.int .i64)], pin := 0 }
abbrev so_waits_First : Shape := { sl := [(0, (.hole (.pair (.int .i64) (.pair (.int .i64) (.int .i64))))), (1, (.hole (.int .i64)))], bl := [], ts := [(.pair (.int .i64) (.pair (.int .i64) (.int .i64))), (.int .i64)], pin := 0 }
noncomputable def F_waits_First (x : (List ((Int × (Int × Int))) × Int)) : Option ((Int × (Int × Int)) × Int) :=
  ((F_waits_Right x.1)).bind fun r9 =>
  bif (Bool.not r9) then
    some (((0 : Int), ((0 : Int), (0 : Int))), (1 : Int))
  else
    bif (decide (x.2 < (0 : Int))) then
      some (((0 : Int), ((0 : Int), (0 : Int))), (1 : Int))
    else
      ((F_slices_IndexFunc_api_Wait__waits_First_1 (x.1, x.2))).bind fun r10 =>
      bif (decide (r10.1 < (0 : Int))) then
        some (((0 : Int), ((0 : Int), (0 : Int))), (4 : Int))
      else
        bif (Go.Proofs.Ytgnellpcphepjaa.VX.inb r10.1 (List.length x.1)) then
          some ((Go.Proofs.Ytgnellpcphepjaa.VX.getAt ((0 : Int), ((0 : Int), (0 : Int))) x.1 (Go.Proofs.Ytgnellpcphepjaa.VX.toN r10.1)), (0 : Int))
        else
          none
noncomputable def cx_waits_First : Ctx := { tb := mkTb T2.tbl, fx := [(46, [], Spec.shp si_waits_Right so_waits_Right F_waits_Right), (63, [64], Spec.shp si_slices_IndexFunc_api_Wait__waits_First_1 so_slices_IndexFunc_api_Wait__waits_First_1 F_slices_IndexFunc_api_Wait__waits_First_1)], sum := [], nt := 25, pin := 0, nr := true, ys := [] }
theorem F_waits_First_ok : Sound Try.prog 50 (Spec.shp si_waits_First so_waits_First F_waits_First) :=
  Sound.shp (C := cx_waits_First) (fn := Try.f50) (by kernel_rfl) (c := bodyOf Try.f50) (by kernel_rfl) (by decide) (ctxOK mixed tbl_ok rfl ⟨F_waits_Right_ok, F_slices_IndexFunc_api_Wait__waits_First_1_ok, trivial⟩ trivial) (SumOK.of trivial) (by kernel_rfl) si_waits_First so_waits_First rfl (by decide) (by decide) rfl (by decide) rfl F_waits_First (fun x => by kernel_rfl)
abbrev si_chans_work_other : Shape := { sl := [(0, (.ptr 0 [])), (1, (.hole (.slice (.pair (.int .i64) (.pair (.int .i64) (.int .i64))))))], bl := [.var (.hole (.pair (.pair (.int .i64) (.pair .bool (.pair (.pair (.int .i64) (.pair (.int .i64) (.pair (.slice (.int .i64)) (.int .i64)))) (.pair (.int .i64) (.pair (.int .i64) (.pair (.slice (.pair (.int .i64) (.pair (.int .i64) (.int .i64)))) (.slice (.pair (.int .i64) (.pair (.int .i64) (.int .i64)))))))))) (.int .i64)))], ts := [(.slice (.pair (.int .i64) (.pair (.int .i64) (.int .i64)))), (.pair (.pair (.int .i64) (.pair .bool (.pair (.pair (.int .i64) (.pair (.int .i64) (.pair (.slice (.int .i64)) (.int .i64)))) (.pair (.int .i64) (.pair (.int .i64) (.pair (.slice (.pair (.int .i64) (.pair (.int .i64) (.int .i64)))) (.slice (.pair (.int .i64) (.pair (.int .i64) (.int .i64)))))))))) (.int .i64))], pin := 0 }
abbrev so_chans_work_other : Shape := { sl := [(0, (.hole (.pair (.int .i64) (.pair (.int .i64) (.int .i64)))))], bl := [.var (.hole (.pair (.pair (.int .i64) (.pair .bool (.pair (.pair (.int .i64) (.pair (.int .i64) (.pair (.slice (.int .i64)) (.int .i64)))) (.pair (.int .i64) (.pair (.int .i64) (.pair (.slice (.pair (.int .i64) (.pair (.int .i64) (.int .i64)))) (.slice (.pair (.int .i64) (.pair (.int .i64) (.int .i64)))))))))) (.int .i64)))], ts := [(.pair (.int .i64) (.pair (.int .i64) (.int .i64))), (.pair (.pair (.int .i64) (.pair .bool (.pair (.pair (.int .i64) (.pair (.int .i64) (.pair (.slice (.int .i64)) (.int .i64)))) (.pair (.int .i64) (.pair (.int .i64) (.pair (.slice (.pair (.int .i64) (.pair (.int .i64) (.int .i64)))) (.slice (.pair (.int .i64) (.pair (.int .i64) (.int .i64)))))))))) (.int .i64))], pin := 1 }
noncomputable def F_chans_work_other (x : (List ((Int × (Int × Int))) × ((Int × (Bool × ((Int × (Int × (List (Int) × Int))) × (Int × (Int × (List ((Int × (Int × Int))) × List ((Int × (Int × Int))))))))) × Int))) : Option ((Int × (Int × Int)) × ((Int × (Bool × ((Int × (Int × (List (Int) × Int))) × (Int × (Int × (List ((Int × (Int × Int))) × List ((Int × (Int × Int))))))))) × Int)) :=
  ((F_waits_First (x.1, x.2.2))).bind fun r8 =>
  bif (r8.2 != (0 : Int)) then
    bif ((r8.1.1 == ((0 : Int), ((0 : Int), (0 : Int))).1) && ((r8.1.2.1 == ((0 : Int), ((0 : Int), (0 : Int))).2.1) && (r8.1.2.2 == ((0 : Int), ((0 : Int), (0 : Int))).2.2))) then
      some (((Int.negSucc 0), ((0 : Int), (0 : Int))), x.2)
    else
      some (r8.1, x.2)
  else
    some (r8.1, x.2)
noncomputable def cx_chans_work_other : Ctx := { tb := mkTb T2.tbl, fx := [(50, [], Spec.shp si_waits_First so_waits_First F_waits_First)], sum := [], nt := 27, pin := 1, nr := true, ys := [] }
theorem F_chans_work_other_ok : Sound Try.prog 29 (Spec.shp si_chans_work_other so_chans_work_other F_chans_work_other) :=
  Sound.shp (C := cx_chans_work_other) (fn := Try.f29) (by kernel_rfl) (c := bodyOf Try.f29) (by kernel_rfl) (by decide) (ctxOK mixed tbl_ok rfl ⟨F_waits_First_ok, trivial⟩ trivial) (SumOK.of trivial) (by kernel_rfl) si_chans_work_other so_chans_work_other rfl (by decide) (by decide) rfl (by decide) rfl F_chans_work_other (fun x => by kernel_rfl)
abbrev si_chans_Ready : Shape := { sl := [(0, (.hole (.pair (.int .i64) (.pair .bool (.pair (.pair (.int .i64) (.pair (.int .i64) (.pair (.slice (.int .i64)) (.int .i64)))) (.pair (.int .i64) (.pair (.int .i64) (.pair (.slice (.pair (.int .i64) (.pair (.int .i64) (.int .i64)))) (.slice (.pair (.int .i64) (.pair (.int .i64) (.int .i64)))))))))))), (1, (.hole .bool)), (2, (.hole (.int .i64)))], bl := [], ts := [(.pair (.int .i64) (.pair .bool (.pair (.pair (.int .i64) (.pair (.int .i64) (.pair (.slice (.int .i64)) (.int .i64)))) (.pair (.int .i64) (.pair (.int .i64) (.pair (.slice (.pair (.int .i64) (.pair (.int .i64) (.int .i64)))) (.slice (.pair (.int .i64) (.pair (.int .i64) (.int .i64)))))))))), .bool, (.int .i64)], pin := 0 }
abbrev so_chans_Ready : Shape := { sl := [(0, (.hole .bool)), (1, (.hole (.int .i64)))], bl := [], ts := [.bool, (.int .i64)], pin := 0 }
noncomputable def F_chans_Ready (x : ((Int × (Bool × ((Int × (Int × (List (Int) × Int))) × (Int × (Int × (List ((Int × (Int × Int))) × List ((Int × (Int × Int))))))))) × Bool × Int)) : Option (Bool × Int) :=
  ((F_chans_Right x.1)).bind fun r4 =>
  bif (Bool.not r4) then
    some (false, (1 : Int))
  else
    bif (decide (x.2.2 < (0 : Int))) then
      some (false, (1 : Int))
    else
      ((F_chans_work_isNil (x.1, x.2.2))).bind fun r5 =>
      bif r5.1 then
        some (false, (0 : Int))
      else
        bif r5.2.1.2.1 then
          some (true, (0 : Int))
        else
          bif x.2.1 then
            ((F_chans_work_full r5.2)).bind fun r6 =>
            bif (Bool.not r6.1) then
              some (true, (0 : Int))
            else
              ((F_chans_work_other (r6.2.1.2.2.2.2.2.2, r6.2))).bind fun r7 =>
              some ((r7.1.1 != (Int.negSucc 0)), (0 : Int))
          else
            bif (decide (r5.2.1.2.2.1.2.2.2 > (0 : Int))) then
              some (true, (0 : Int))
            else
              ((F_chans_work_other (r5.2.1.2.2.2.2.2.1, r5.2))).bind fun r6 =>
              some ((r6.1.1 != (Int.negSucc 0)), (0 : Int))
noncomputable def cx_chans_Ready : Ctx := { tb := mkTb T2.tbl, fx := [(20, [], Spec.shp si_chans_Right so_chans_Right F_chans_Right), (30, [], Spec.shp si_chans_work_isNil so_chans_work_isNil F_chans_work_isNil), (31, [], Spec.shp si_chans_work_full so_chans_work_full F_chans_work_full), (29, [], Spec.shp si_chans_work_other so_chans_work_other F_chans_work_other)], sum := [], nt := 63, pin := 0, nr := true, ys := [] }
theorem F_chans_Ready_ok : Sound Try.prog 19 (Spec.shp si_chans_Ready so_chans_Ready F_chans_Ready) :=
  Sound.shp (C := cx_chans_Ready) (fn := Try.f19) (by kernel_rfl) (c := bodyOf Try.f19) (by kernel_rfl) (by decide) (ctxOK mixed tbl_ok rfl ⟨F_chans_Right_ok, F_chans_work_isNil_ok, F_chans_work_full_ok, F_chans_work_other_ok, trivial⟩ trivial) (SumOK.of trivial) (by kernel_rfl) si_chans_Ready so_chans_Ready rfl (by decide) (by decide) rfl (by decide) rfl F_chans_Ready (fun x => by kernel_rfl)
abbrev si_chans_Close : Shape := { sl := [(0, (.hole (.pair (.int .i64) (.pair .bool (.pair (.pair (.int .i64) (.pair (.int .i64) (.pair (.slice (.int .i64)) (.int .i64)))) (.pair (.int .i64) (.pair (.int .i64) (.pair (.slice (.pair (.int .i64) (.pair (.int .i64) (.int .i64)))) (.slice (.pair (.int .i64) (.pair (.int .i64) (.int .i64))))))))))))], bl := [], ts := [(.pair (.int .i64) (.pair .bool (.pair (.pair (.int .i64) (.pair (.int .i64) (.pair (.slice (.int .i64)) (.int .i64)))) (.pair (.int .i64) (.pair (.int .i64) (.pair (.slice (.pair (.int .i64) (.pair (.int .i64) (.int .i64)))) (.slice (.pair (.int .i64) (.pair (.int .i64) (.int .i64))))))))))], pin := 0 }
abbrev so_chans_Close : Shape := { sl := [(0, (.hole (.pair (.int .i64) (.pair .bool (.pair (.pair (.int .i64) (.pair (.int .i64) (.pair (.slice (.int .i64)) (.int .i64)))) (.pair (.int .i64) (.pair (.int .i64) (.pair (.slice (.pair (.int .i64) (.pair (.int .i64) (.int .i64)))) (.slice (.pair (.int .i64) (.pair (.int .i64) (.int .i64)))))))))))), (1, (.hole (.slice (.pair (.int .i64) (.pair (.int .i64) (.int .i64)))))), (2, (.hole .bool)), (3, (.hole (.int .i64)))], bl := [], ts := [(.pair (.int .i64) (.pair .bool (.pair (.pair (.int .i64) (.pair (.int .i64) (.pair (.slice (.int .i64)) (.int .i64)))) (.pair (.int .i64) (.pair (.int .i64) (.pair (.slice (.pair (.int .i64) (.pair (.int .i64) (.int .i64)))) (.slice (.pair (.int .i64) (.pair (.int .i64) (.int .i64)))))))))), (.slice (.pair (.int .i64) (.pair (.int .i64) (.int .i64)))), .bool, (.int .i64)], pin := 0 }
noncomputable def F_chans_Close (x : ((Int × (Bool × ((Int × (Int × (List (Int) × Int))) × (Int × (Int × (List ((Int × (Int × Int))) × List ((Int × (Int × Int))))))))))) : Option ((Int × (Bool × ((Int × (Int × (List (Int) × Int))) × (Int × (Int × (List ((Int × (Int × Int))) × List ((Int × (Int × Int))))))))) × List ((Int × (Int × Int))) × Bool × Int) :=
  ((F_chans_Right x)).bind fun r5 =>
  bif (Bool.not r5) then
    some (((0 : Int), (false, (((0 : Int), ((0 : Int), (([] : List Int), (0 : Int)))), ((0 : Int), ((0 : Int), (([] : List (Int × (Int × Int))), ([] : List (Int × (Int × Int))))))))), (([] : List (Int × (Int × Int))), (false, (1 : Int))))
  else
    bif (decide (x.1 < (0 : Int))) then
      some (x, (([] : List (Int × (Int × Int))), (true, (0 : Int))))
    else
      bif x.2.1 then
        some (x, (([] : List (Int × (Int × Int))), (true, (0 : Int))))
      else
        bif (decide ((((List.length x.2.2.2.2.2.1) : Nat) : Int) > (0 : Int))) then
          some (x, (([] : List (Int × (Int × Int))), (true, (0 : Int))))
        else
          some ((x.1, (true, (x.2.2.1, (x.2.2.2.1, (x.2.2.2.2.1, (x.2.2.2.2.2.1, ([] : List (Int × (Int × Int))))))))), (x.2.2.2.2.2.2, (false, (0 : Int))))
noncomputable def cx_chans_Close : Ctx := { tb := mkTb T2.tbl, fx := [(20, [], Spec.shp si_chans_Right so_chans_Right F_chans_Right)], sum := [], nt := 31, pin := 0, nr := true, ys := [] }
theorem F_chans_Close_ok : Sound Try.prog 17 (Spec.shp si_chans_Close so_chans_Close F_chans_Close) :=
  Sound.shp (C := cx_chans_Close) (fn := Try.f17) (by kernel_rfl) (c := bodyOf Try.f17) (by kernel_rfl) (by decide) (ctxOK mixed tbl_ok rfl ⟨F_chans_Right_ok, trivial⟩ trivial) (SumOK.of trivial) (by kernel_rfl) si_chans_Close so_chans_Close rfl (by decide) (by decide) rfl (by decide) rfl F_chans_Close (fun x => by kernel_rfl)
abbrev si_slices_Clone_api_Wait : Shape := { sl := [(0, (.hole (.slice (.pair (.int .i64) (.pair (.int .i64) (.int .i64))))))], bl := [], ts := [(.slice (.pair (.int .i64) (.pair (.int .i64) (.int .i64))))], pin := 0 }
abbrev so_slices_Clone_api_Wait : Shape := { sl := [(0, (.sl 0))], bl := [.row (.pair (.int .i64) (.pair (.int .i64) (.int .i64)))], ts := [(.slice (.pair (.int .i64) (.pair (.int .i64) (.int .i64))))], pin := 0 }
noncomputable def F_slices_Clone_api_Wait (x : (List ((Int × (Int × Int))))) : Option (List ((Int × (Int × Int)))) :=
  bif (@Nat.beq (List.length x) (0 : Nat)) then
    amb (
      some ([] : List (Int × (Int × Int)))) (
      bif (Go.Proofs.Ytgnellpcphepjaa.VX.fits ((List.length ([] : List (Int × (Int × Int)))) + (List.length x))) then
        some (([] : List (Int × (Int × Int))) ++ x)
      else
        none)
  else
    bif (Go.Proofs.Ytgnellpcphepjaa.VX.fits ((List.length ([] : List (Int × (Int × Int)))) + (List.length x))) then
      some (([] : List (Int × (Int × Int))) ++ x)
    else
      none
noncomputable def cx_slices_Clone_api_Wait : Ctx := { tb := mkTb T2.tbl, fx := [], sum := [], nt := 8, pin := 0, nr := true, ys := [] }
theorem F_slices_Clone_api_Wait_ok : Sound Try.prog 55 (Spec.shp si_slices_Clone_api_Wait so_slices_Clone_api_Wait F_slices_Clone_api_Wait) :=
  Sound.shp (C := cx_slices_Clone_api_Wait) (fn := Try.f55) (by kernel_rfl) (c := bodyOf Try.f55) (by kernel_rfl) (by decide) (ctxOK mixed tbl_ok rfl trivial trivial) (SumOK.of trivial) (by kernel_rfl) si_slices_Clone_api_Wait so_slices_Clone_api_Wait rfl (by decide) (by decide) rfl (by decide) rfl F_slices_Clone_api_Wait (fun x => by kernel_rfl)
abbrev si_waits_Drop_1 : Shape := { sl := [(0, (.hole (.pair (.int .i64) (.pair (.int .i64) (.int .i64))))), (1, (.ptr 0 []))], bl := [.var (.hole (.int .i64))], ts := [(.pair (.int .i64) (.pair (.int .i64) (.int .i64))), (.int .i64)], pin := 0 }
abbrev so_waits_Drop_1 : Shape := { sl := [(0, (.hole .bool))], bl := [.var (.hole (.int .i64))], ts := [.bool, (.int .i64)], pin := 1 }
noncomputable def F_waits_Drop_1 (x : ((Int × (Int × Int)) × Int)) : Option (Bool × Int) :=
  some ((x.1.1 == x.2), x.2)
noncomputable def cx_waits_Drop_1 : Ctx := { tb := mkTb T2.tbl, fx := [], sum := [], nt := 8, pin := 1, nr := true, ys := [] }
theorem F_waits_Drop_1_ok : Sound Try.prog 66 (Spec.shp si_waits_Drop_1 so_waits_Drop_1 F_waits_Drop_1) :=
  Sound.shp (C := cx_waits_Drop_1) (fn := Try.f66) (by kernel_rfl) (c := bodyOf Try.f66) (by kernel_rfl) (by decide) (ctxOK mixed tbl_ok rfl trivial trivial) (SumOK.of trivial) (by kernel_rfl) si_waits_Drop_1 so_waits_Drop_1 rfl (by decide) (by decide) rfl (by decide) rfl F_waits_Drop_1 (fun x => by kernel_rfl)
abbrev sh_slices_IndexFunc_api_Wait__waits_Drop_1_lent_3 : Shape := { sl := [(0, (.sl 0)), (1, (.fn 66 .nil (.cons (.ptr 1 []) .nil))), (7, (.hole (.int .i64))), (8, (.hole (.int .i64)))], bl := [.row (.pair (.int .i64) (.pair (.int .i64) (.int .i64))), .var (.hole (.int .i64))], ts := [(.int .i64), (.int .i64), (.slice (.pair (.int .i64) (.pair (.int .i64) (.int .i64)))), (.int .i64)], pin := 2 }
abbrev es_slices_IndexFunc_api_Wait__waits_Drop_1_lent_3 : List (ETag × Shape) := [(.ret, { sl := [(4, (.hole (.int .i64)))], bl := [.row (.pair (.int .i64) (.pair (.int .i64) (.int .i64))), .var (.hole (.int .i64))], ts := [(.int .i64), (.slice (.pair (.int .i64) (.pair (.int .i64) (.int .i64)))), (.int .i64)], pin := 2 }), (.exit 0, { sl := [], bl := [.row (.pair (.int .i64) (.pair (.int .i64) (.int .i64))), .var (.hole (.int .i64))], ts := [(.slice (.pair (.int .i64) (.pair (.int .i64) (.int .i64)))), (.int .i64)], pin := 2 })]
noncomputable def L_slices_IndexFunc_api_Wait__waits_Drop_1_lent_3 (x : (Int × Int × List ((Int × (Int × Int))) × Int)) : Option ((Int × Int × List ((Int × (Int × Int))) × Int) ⊕ ((Int × List ((Int × (Int × Int))) × Int) ⊕ (List ((Int × (Int × Int))) × Int))) :=
  bif (decide (x.2.1 < x.1)) then
    bif (Go.Proofs.Ytgnellpcphepjaa.VX.inb x.2.1 (List.length x.2.2.1)) then
      ((F_waits_Drop_1 ((Go.Proofs.Ytgnellpcphepjaa.VX.getAt ((0 : Int), ((0 : Int), (0 : Int))) x.2.2.1 (Go.Proofs.Ytgnellpcphepjaa.VX.toN x.2.1)), x.2.2.2))).bind fun r14 =>
      bif r14.1 then
        some (.inr (.inl (x.2.1, (x.2.2.1, r14.2))))
      else
        some (.inl (x.1, ((Go.IntKind.wrap Go.IntKind.i64 (x.2.1 + (1 : Int))), (x.2.2.1, r14.2))))
    else
      none
  else
    some (.inr (.inr (x.2.2.1, x.2.2.2)))
noncomputable def cx_slices_IndexFunc_api_Wait__waits_Drop_1_lent_3 : Ctx := { tb := mkTb T2.tbl, fx := [(66, [], Spec.shp si_waits_Drop_1 so_waits_Drop_1 F_waits_Drop_1)], sum := [], nt := 19, pin := 2, nr := true, ys := [] }
theorem L_slices_IndexFunc_api_Wait__waits_Drop_1_lent_3_ok : CSound Try.prog ⟨19, 2, true⟩ (.loop (loopOf 3 Try.f63)) (pieceSpec sh_slices_IndexFunc_api_Wait__waits_Drop_1_lent_3 es_slices_IndexFunc_api_Wait__waits_Drop_1_lent_3 (loop L_slices_IndexFunc_api_Wait__waits_Drop_1_lent_3)) :=
  loop_sound (C := cx_slices_IndexFunc_api_Wait__waits_Drop_1_lent_3) (ctxOK mixed tbl_ok rfl ⟨F_waits_Drop_1_ok, trivial⟩ trivial) (SumOK.of trivial) sh_slices_IndexFunc_api_Wait__waits_Drop_1_lent_3 es_slices_IndexFunc_api_Wait__waits_Drop_1_lent_3 rfl rfl L_slices_IndexFunc_api_Wait__waits_Drop_1_lent_3 (fun x => by kernel_rfl)
abbrev si_slices_IndexFunc_api_Wait__waits_Drop_1_lent : Shape := { sl := [(0, (.sl 0)), (1, (.fn 66 .nil (.cons (.ptr 1 []) .nil)))], bl := [.row (.pair (.int .i64) (.pair (.int .i64) (.int .i64))), .var (.hole (.int .i64))], ts := [(.slice (.pair (.int .i64) (.pair (.int .i64) (.int .i64)))), (.int .i64)], pin := 0 }
abbrev so_slices_IndexFunc_api_Wait__waits_Drop_1_lent : Shape := { sl := [(0, (.hole (.int .i64)))], bl := [.row (.pair (.int .i64) (.pair (.int .i64) (.int .i64))), .var (.hole (.int .i64))], ts := [(.int .i64), (.slice (.pair (.int .i64) (.pair (.int .i64) (.int .i64)))), (.int .i64)], pin := 2 }
noncomputable def F_slices_IndexFunc_api_Wait__waits_Drop_1_lent (x : (List ((Int × (Int × Int))) × Int)) : Option (Int × List ((Int × (Int × Int))) × Int) :=
  ((loop L_slices_IndexFunc_api_Wait__waits_Drop_1_lent_3 ((((List.length x.1) : Nat) : Int), ((0 : Int), (x.1, x.2))))).bind fun r13 =>
  match r13 with
  | .inl y14 =>
    some (y14.1, (y14.2.1, y14.2.2))
  | .inr y14 =>
    some ((Int.negSucc 0), (y14.1, y14.2))
noncomputable def cx_slices_IndexFunc_api_Wait__waits_Drop_1_lent : Ctx := { tb := mkTb T2.tbl, fx := [(66, [], Spec.shp si_waits_Drop_1 so_waits_Drop_1 F_waits_Drop_1)], sum := [(0, 3, pieceSpec sh_slices_IndexFunc_api_Wait__waits_Drop_1_lent_3 es_slices_IndexFunc_api_Wait__waits_Drop_1_lent_3 (loop L_slices_IndexFunc_api_Wait__waits_Drop_1_lent_3))], nt := 19, pin := 2, nr := true, ys := [] }
theorem F_slices_IndexFunc_api_Wait__waits_Drop_1_lent_ok : Sound Try.prog 63 (Spec.shp si_slices_IndexFunc_api_Wait__waits_Drop_1_lent so_slices_IndexFunc_api_Wait__waits_Drop_1_lent F_slices_IndexFunc_api_Wait__waits_Drop_1_lent) :=
  Sound.shp (C := cx_slices_IndexFunc_api_Wait__waits_Drop_1_lent) (fn := Try.f63) (by kernel_rfl) (c := bodyOf Try.f63) (by kernel_rfl) (by decide) (ctxOK mixed tbl_ok rfl ⟨F_waits_Drop_1_ok, trivial⟩ trivial) (SumOK.of ⟨(pieces_one (d := .loop (loopOf 3 Try.f63)) (by kernel_rfl) L_slices_IndexFunc_api_Wait__waits_Drop_1_lent_3_ok), trivial⟩) (by kernel_rfl) si_slices_IndexFunc_api_Wait__waits_Drop_1_lent so_slices_IndexFunc_api_Wait__waits_Drop_1_lent rfl (by decide) (by decide) rfl (by decide) rfl F_slices_IndexFunc_api_Wait__waits_Drop_1_lent (fun x => by kernel_rfl)
abbrev sh_slices_DeleteFunc_api_Wait__waits_Drop_1_6 : Shape := { sl := [(0, (.sl 1)), (1, (.fn 66 .nil (.cons (.ptr 0 []) .nil))), (5, (.hole (.int .i64))), (6, (.hole (.int .i64)))], bl := [.var (.hole (.int .i64)), .row (.pair (.int .i64) (.pair (.int .i64) (.int .i64)))], ts := [(.int .i64), (.int .i64), (.int .i64), (.slice (.pair (.int .i64) (.pair (.int .i64) (.int .i64))))], pin := 1 }
abbrev es_slices_DeleteFunc_api_Wait__waits_Drop_1_6 : List (ETag × Shape) := [(.exit 0, { sl := [(0, (.sl 1)), (5, (.hole (.int .i64)))], bl := [.var (.hole (.int .i64)), .row (.pair (.int .i64) (.pair (.int .i64) (.int .i64)))], ts := [(.int .i64), (.int .i64), (.slice (.pair (.int .i64) (.pair (.int .i64) (.int .i64))))], pin := 1 })]
noncomputable def L_slices_DeleteFunc_api_Wait__waits_Drop_1_6 (x : (Int × Int × Int × List ((Int × (Int × Int))))) : Option ((Int × Int × Int × List ((Int × (Int × Int)))) ⊕ ((Int × Int × List ((Int × (Int × Int)))))) :=
  bif (decide (x.2.1 < (((List.length x.2.2.2) : Nat) : Int))) then
    bif (Go.Proofs.Ytgnellpcphepjaa.VX.inb x.2.1 (List.length x.2.2.2)) then
      ((F_waits_Drop_1 ((Go.Proofs.Ytgnellpcphepjaa.VX.getAt ((0 : Int), ((0 : Int), (0 : Int))) x.2.2.2 (Go.Proofs.Ytgnellpcphepjaa.VX.toN x.2.1)), x.2.2.1))).bind fun r14 =>
      bif (Bool.not r14.1) then
        bif (Go.Proofs.Ytgnellpcphepjaa.VX.inb x.1 (List.length x.2.2.2)) then
          some (.inl ((Go.IntKind.wrap Go.IntKind.i64 (x.1 + (1 : Int))), ((Go.IntKind.wrap Go.IntKind.i64 (x.2.1 + (1 : Int))), (r14.2, (List.set x.2.2.2 (Go.Proofs.Ytgnellpcphepjaa.VX.toN x.1) (Go.Proofs.Ytgnellpcphepjaa.VX.getAt ((0 : Int), ((0 : Int), (0 : Int))) x.2.2.2 (Go.Proofs.Ytgnellpcphepjaa.VX.toN x.2.1)))))))
        else
          none
      else
        some (.inl (x.1, ((Go.IntKind.wrap Go.IntKind.i64 (x.2.1 + (1 : Int))), (r14.2, x.2.2.2))))
    else
      none
  else
    some (.inr (x.1, (x.2.2.1, x.2.2.2)))
noncomputable def cx_slices_DeleteFunc_api_Wait__waits_Drop_1_6 : Ctx := { tb := mkTb T2.tbl, fx := [(63, [2000000, 66], Spec.shp si_slices_IndexFunc_api_Wait__waits_Drop_1_lent so_slices_IndexFunc_api_Wait__waits_Drop_1_lent F_slices_IndexFunc_api_Wait__waits_Drop_1_lent), (66, [], Spec.shp si_waits_Drop_1 so_waits_Drop_1 F_waits_Drop_1)], sum := [], nt := 42, pin := 1, nr := true, ys := [] }
theorem L_slices_DeleteFunc_api_Wait__waits_Drop_1_6_ok : CSound Try.prog ⟨42, 1, true⟩ (.loop (loopOf 6 Try.f65)) (pieceSpec sh_slices_DeleteFunc_api_Wait__waits_Drop_1_6 es_slices_DeleteFunc_api_Wait__waits_Drop_1_6 (loop L_slices_DeleteFunc_api_Wait__waits_Drop_1_6)) :=
  loop_sound (C := cx_slices_DeleteFunc_api_Wait__waits_Drop_1_6) (ctxOK mixed tbl_ok rfl ⟨F_slices_IndexFunc_api_Wait__waits_Drop_1_lent_ok, F_waits_Drop_1_ok, trivial⟩ trivial) (SumOK.of trivial) sh_slices_DeleteFunc_api_Wait__waits_Drop_1_6 es_slices_DeleteFunc_api_Wait__waits_Drop_1_6 rfl rfl L_slices_DeleteFunc_api_Wait__waits_Drop_1_6 (fun x => by kernel_rfl)
abbrev si_slices_DeleteFunc_api_Wait__waits_Drop_1 : Shape := { sl := [(0, (.sl 1)), (1, (.fn 66 .nil (.cons (.ptr 0 []) .nil)))], bl := [.var (.hole (.int .i64)), .row (.pair (.int .i64) (.pair (.int .i64) (.int .i64)))], ts := [(.int .i64), (.slice (.pair (.int .i64) (.pair (.int .i64) (.int .i64))))], pin := 0 }
abbrev so_slices_DeleteFunc_api_Wait__waits_Drop_1 : Shape := { sl := [(0, (.hole (.slice (.pair (.int .i64) (.pair (.int .i64) (.int .i64))))))], bl := [.var (.hole (.int .i64))], ts := [(.slice (.pair (.int .i64) (.pair (.int .i64) (.int .i64)))), (.int .i64)], pin := 1 }
noncomputable def F_slices_DeleteFunc_api_Wait__waits_Drop_1 (x : (Int × List ((Int × (Int × Int))))) : Option (List ((Int × (Int × Int))) × Int) :=
  ((F_slices_IndexFunc_api_Wait__waits_Drop_1_lent (x.2, x.1))).bind fun r12 =>
  bif (r12.1 == (Int.negSucc 0)) then
    some (r12.2.1, r12.2.2)
  else
    ((loop L_slices_DeleteFunc_api_Wait__waits_Drop_1_6 (r12.1, ((Go.IntKind.wrap Go.IntKind.i64 (r12.1 + (1 : Int))), (r12.2.2, r12.2.1))))).bind fun r13 =>
    bif (Go.Proofs.Ytgnellpcphepjaa.VX.sub3 r13.1 (((List.length r13.2.2) : Nat) : Int) (List.length r13.2.2)) then
      bif (Go.Proofs.Ytgnellpcphepjaa.VX.sub3 (0 : Int) r13.1 (List.length (Go.Proofs.Ytgnellpcphepjaa.VX.over r13.2.2 (List.replicate ((Go.Proofs.Ytgnellpcphepjaa.VX.toN (((List.length r13.2.2) : Nat) : Int)) - (Go.Proofs.Ytgnellpcphepjaa.VX.toN r13.1)) ((0 : Int), ((0 : Int), (0 : Int)))) (Go.Proofs.Ytgnellpcphepjaa.VX.toN r13.1) ((Go.Proofs.Ytgnellpcphepjaa.VX.toN (((List.length r13.2.2) : Nat) : Int)) - (Go.Proofs.Ytgnellpcphepjaa.VX.toN r13.1))))) then
        some ((Go.Proofs.Ytgnellpcphepjaa.VX.cut (Go.Proofs.Ytgnellpcphepjaa.VX.over r13.2.2 (List.replicate ((Go.Proofs.Ytgnellpcphepjaa.VX.toN (((List.length r13.2.2) : Nat) : Int)) - (Go.Proofs.Ytgnellpcphepjaa.VX.toN r13.1)) ((0 : Int), ((0 : Int), (0 : Int)))) (Go.Proofs.Ytgnellpcphepjaa.VX.toN r13.1) ((Go.Proofs.Ytgnellpcphepjaa.VX.toN (((List.length r13.2.2) : Nat) : Int)) - (Go.Proofs.Ytgnellpcphepjaa.VX.toN r13.1))) (Go.Proofs.Ytgnellpcphepjaa.VX.toN (0 : Int)) ((Go.Proofs.Ytgnellpcphepjaa.VX.toN r13.1) - (Go.Proofs.Ytgnellpcphepjaa.VX.toN (0 : Int)))), r13.2.1)
      else
        none
    else
      none
noncomputable def cx_slices_DeleteFunc_api_Wait__waits_Drop_1 : Ctx := { tb := mkTb T2.tbl, fx := [(63, [2000000, 66], Spec.shp si_slices_IndexFunc_api_Wait__waits_Drop_1_lent so_slices_IndexFunc_api_Wait__waits_Drop_1_lent F_slices_IndexFunc_api_Wait__waits_Drop_1_lent), (66, [], Spec.shp si_waits_Drop_1 so_waits_Drop_1 F_waits_Drop_1)], sum := [(0, 6, pieceSpec sh_slices_DeleteFunc_api_Wait__waits_Drop_1_6 es_slices_DeleteFunc_api_Wait__waits_Drop_1_6 (loop L_slices_DeleteFunc_api_Wait__waits_Drop_1_6))], nt := 42, pin := 1, nr := true, ys := [] }
theorem F_slices_DeleteFunc_api_Wait__waits_Drop_1_ok : Sound Try.prog 65 (Spec.shp si_slices_DeleteFunc_api_Wait__waits_Drop_1 so_slices_DeleteFunc_api_Wait__waits_Drop_1 F_slices_DeleteFunc_api_Wait__waits_Drop_1) :=
  Sound.shp (C := cx_slices_DeleteFunc_api_Wait__waits_Drop_1) (fn := Try.f65) (by kernel_rfl) (c := bodyOf Try.f65) (by kernel_rfl) (by decide) (ctxOK mixed tbl_ok rfl ⟨F_slices_IndexFunc_api_Wait__waits_Drop_1_lent_ok, F_waits_Drop_1_ok, trivial⟩ trivial) (SumOK.of ⟨(pieces_one (d := .loop (loopOf 6 Try.f65)) (by kernel_rfl) L_slices_DeleteFunc_api_Wait__waits_Drop_1_6_ok), trivial⟩) (by kernel_rfl) si_slices_DeleteFunc_api_Wait__waits_Drop_1 so_slices_DeleteFunc_api_Wait__waits_Drop_1 rfl (by decide) (by decide) rfl (by decide) rfl F_slices_DeleteFunc_api_Wait__waits_Drop_1 (fun x => by kernel_rfl)
abbrev si_waits_Drop : Shape := { sl := [(0, (.hole (.slice (.pair (.int .i64) (.pair (.int .i64) (.int .i64)))))), (1, (.hole (.int .i64)))], bl := [], ts := [(.slice (.pair (.int .i64) (.pair (.int .i64) (.int .i64)))), (.int .i64)], pin := 0 }
abbrev so_waits_Drop : Shape := { sl := [(0, (.hole (.slice (.pair (.int .i64) (.pair (.int .i64) (.int .i64)))))), (1, (.hole (.int .i64)))], bl := [], ts := [(.slice (.pair (.int .i64) (.pair (.int .i64) (.int .i64)))), (.int .i64)], pin := 0 }
noncomputable def F_waits_Drop (x : (List ((Int × (Int × Int))) × Int)) : Option (List ((Int × (Int × Int))) × Int) :=
  ((F_waits_Right x.1)).bind fun r9 =>
  bif (Bool.not r9) then
    some (([] : List (Int × (Int × Int))), (1 : Int))
  else
    bif (decide (x.2 < (0 : Int))) then
      some (([] : List (Int × (Int × Int))), (1 : Int))
    else
      ((F_slices_Clone_api_Wait x.1)).bind fun r10 =>
      ((F_slices_DeleteFunc_api_Wait__waits_Drop_1 (x.2, r10))).bind fun r11 =>
      some (r11.1, (0 : Int))
noncomputable def cx_waits_Drop : Ctx := { tb := mkTb T2.tbl, fx := [(46, [], Spec.shp si_waits_Right so_waits_Right F_waits_Right), (55, [], Spec.shp si_slices_Clone_api_Wait so_slices_Clone_api_Wait F_slices_Clone_api_Wait), (65, [2000000, 66], Spec.shp si_slices_DeleteFunc_api_Wait__waits_Drop_1 so_slices_DeleteFunc_api_Wait__waits_Drop_1 F_slices_DeleteFunc_api_Wait__waits_Drop_1)], sum := [], nt := 17, pin := 0, nr := true, ys := [] }
theorem F_waits_Drop_ok : Sound Try.prog 51 (Spec.shp si_waits_Drop so_waits_Drop F_waits_Drop) :=
  Sound.shp (C := cx_waits_Drop) (fn := Try.f51) (by kernel_rfl) (c := bodyOf Try.f51) (by kernel_rfl) (by decide) (ctxOK mixed tbl_ok rfl ⟨F_waits_Right_ok, F_slices_Clone_api_Wait_ok, F_slices_DeleteFunc_api_Wait__waits_Drop_1_ok, trivial⟩ trivial) (SumOK.of trivial) (by kernel_rfl) si_waits_Drop so_waits_Drop rfl (by decide) (by decide) rfl (by decide) rfl F_waits_Drop (fun x => by kernel_rfl)
abbrev si_chans_work_leave : Shape := { sl := [(0, (.ptr 0 [])), (1, (.hole (.int .i64)))], bl := [.var (.hole (.pair (.pair (.int .i64) (.pair .bool (.pair (.pair (.int .i64) (.pair (.int .i64) (.pair (.slice (.int .i64)) (.int .i64)))) (.pair (.int .i64) (.pair (.int .i64) (.pair (.slice (.pair (.int .i64) (.pair (.int .i64) (.int .i64)))) (.slice (.pair (.int .i64) (.pair (.int .i64) (.int .i64)))))))))) (.int .i64)))], ts := [(.int .i64), (.pair (.pair (.int .i64) (.pair .bool (.pair (.pair (.int .i64) (.pair (.int .i64) (.pair (.slice (.int .i64)) (.int .i64)))) (.pair (.int .i64) (.pair (.int .i64) (.pair (.slice (.pair (.int .i64) (.pair (.int .i64) (.int .i64)))) (.slice (.pair (.int .i64) (.pair (.int .i64) (.int .i64)))))))))) (.int .i64))], pin := 0 }
abbrev so_chans_work_leave : Shape := { sl := [], bl := [.var (.hole (.pair (.pair (.int .i64) (.pair .bool (.pair (.pair (.int .i64) (.pair (.int .i64) (.pair (.slice (.int .i64)) (.int .i64)))) (.pair (.int .i64) (.pair (.int .i64) (.pair (.slice (.pair (.int .i64) (.pair (.int .i64) (.int .i64)))) (.slice (.pair (.int .i64) (.pair (.int .i64) (.int .i64)))))))))) (.int .i64)))], ts := [(.pair (.pair (.int .i64) (.pair .bool (.pair (.pair (.int .i64) (.pair (.int .i64) (.pair (.slice (.int .i64)) (.int .i64)))) (.pair (.int .i64) (.pair (.int .i64) (.pair (.slice (.pair (.int .i64) (.pair (.int .i64) (.int .i64)))) (.slice (.pair (.int .i64) (.pair (.int .i64) (.int .i64)))))))))) (.int .i64))], pin := 1 }
noncomputable def F_chans_work_leave (x : (Int × ((Int × (Bool × ((Int × (Int × (List (Int) × Int))) × (Int × (Int × (List ((Int × (Int × Int))) × List ((Int × (Int × Int))))))))) × Int))) : Option (((Int × (Bool × ((Int × (Int × (List (Int) × Int))) × (Int × (Int × (List ((Int × (Int × Int))) × List ((Int × (Int × Int))))))))) × Int)) :=
  ((F_waits_Drop (x.2.1.2.2.2.2.2.1, x.1))).bind fun r8 =>
  ((F_waits_Drop (x.2.1.2.2.2.2.2.2, x.1))).bind fun r9 =>
  some ((x.2.1.1, (x.2.1.2.1, (x.2.1.2.2.1, (x.2.1.2.2.2.1, (x.2.1.2.2.2.2.1, (r8.1, r9.1)))))), x.2.2)
noncomputable def cx_chans_work_leave : Ctx := { tb := mkTb T2.tbl, fx := [(51, [], Spec.shp si_waits_Drop so_waits_Drop F_waits_Drop)], sum := [], nt := 32, pin := 1, nr := true, ys := [] }
theorem F_chans_work_leave_ok : Sound Try.prog 32 (Spec.shp si_chans_work_leave so_chans_work_leave F_chans_work_leave) :=
  Sound.shp (C := cx_chans_work_leave) (fn := Try.f32) (by kernel_rfl) (c := bodyOf Try.f32) (by kernel_rfl) (by decide) (ctxOK mixed tbl_ok rfl ⟨F_waits_Drop_ok, trivial⟩ trivial) (SumOK.of trivial) (by kernel_rfl) si_chans_work_leave so_chans_work_leave rfl (by decide) (by decide) rfl (by decide) rfl F_chans_work_leave (fun x => by kernel_rfl)
abbrev si_chans_Leave : Shape := { sl := [(0, (.hole (.pair (.int .i64) (.pair .bool (.pair (.pair (.int .i64) (.pair (.int .i64) (.pair (.slice (.int .i64)) (.int .i64)))) (.pair (.int .i64) (.pair (.int .i64) (.pair (.slice (.pair (.int .i64) (.pair (.int .i64) (.int .i64)))) (.slice (.pair (.int .i64) (.pair (.int .i64) (.int .i64)))))))))))), (1, (.hole (.int .i64)))], bl := [], ts := [(.pair (.int .i64) (.pair .bool (.pair (.pair (.int .i64) (.pair (.int .i64) (.pair (.slice (.int .i64)) (.int .i64)))) (.pair (.int .i64) (.pair (.int .i64) (.pair (.slice (.pair (.int .i64) (.pair (.int .i64) (.int .i64)))) (.slice (.pair (.int .i64) (.pair (.int .i64) (.int .i64)))))))))), (.int .i64)], pin := 0 }
abbrev so_chans_Leave : Shape := { sl := [(0, (.hole (.pair (.int .i64) (.pair .bool (.pair (.pair (.int .i64) (.pair (.int .i64) (.pair (.slice (.int .i64)) (.int .i64)))) (.pair (.int .i64) (.pair (.int .i64) (.pair (.slice (.pair (.int .i64) (.pair (.int .i64) (.int .i64)))) (.slice (.pair (.int .i64) (.pair (.int .i64) (.int .i64)))))))))))), (1, (.hole (.int .i64)))], bl := [], ts := [(.pair (.int .i64) (.pair .bool (.pair (.pair (.int .i64) (.pair (.int .i64) (.pair (.slice (.int .i64)) (.int .i64)))) (.pair (.int .i64) (.pair (.int .i64) (.pair (.slice (.pair (.int .i64) (.pair (.int .i64) (.int .i64)))) (.slice (.pair (.int .i64) (.pair (.int .i64) (.int .i64)))))))))), (.int .i64)], pin := 0 }
noncomputable def F_chans_Leave (x : ((Int × (Bool × ((Int × (Int × (List (Int) × Int))) × (Int × (Int × (List ((Int × (Int × Int))) × List ((Int × (Int × Int))))))))) × Int)) : Option ((Int × (Bool × ((Int × (Int × (List (Int) × Int))) × (Int × (Int × (List ((Int × (Int × Int))) × List ((Int × (Int × Int))))))))) × Int) :=
  ((F_chans_Right x.1)).bind fun r6 =>
  bif (Bool.not r6) then
    some (((0 : Int), (false, (((0 : Int), ((0 : Int), (([] : List Int), (0 : Int)))), ((0 : Int), ((0 : Int), (([] : List (Int × (Int × Int))), ([] : List (Int × (Int × Int))))))))), (1 : Int))
  else
    bif (decide (x.2 < (0 : Int))) then
      some (((0 : Int), (false, (((0 : Int), ((0 : Int), (([] : List Int), (0 : Int)))), ((0 : Int), ((0 : Int), (([] : List (Int × (Int × Int))), ([] : List (Int × (Int × Int))))))))), (1 : Int))
    else
      ((F_chans_work_leave (x.2, (x.1, x.2)))).bind fun r7 =>
      some (r7.1, (0 : Int))
noncomputable def cx_chans_Leave : Ctx := { tb := mkTb T2.tbl, fx := [(20, [], Spec.shp si_chans_Right so_chans_Right F_chans_Right), (32, [], Spec.shp si_chans_work_leave so_chans_work_leave F_chans_work_leave)], sum := [], nt := 26, pin := 0, nr := true, ys := [] }
theorem F_chans_Leave_ok : Sound Try.prog 18 (Spec.shp si_chans_Leave so_chans_Leave F_chans_Leave) :=
  Sound.shp (C := cx_chans_Leave) (fn := Try.f18) (by kernel_rfl) (c := bodyOf Try.f18) (by kernel_rfl) (by decide) (ctxOK mixed tbl_ok rfl ⟨F_chans_Right_ok, F_chans_work_leave_ok, trivial⟩ trivial) (SumOK.of trivial) (by kernel_rfl) si_chans_Leave so_chans_Leave rfl (by decide) (by decide) rfl (by decide) rfl F_chans_Leave (fun x => by kernel_rfl)
abbrev si_plaitref04_Right : Shape := { sl := [(0, (.hole (.pair (.int .i64) (.pair (.int .i64) (.pair (.slice (.int .i64)) (.int .i64))))))], bl := [], ts := [(.pair (.int .i64) (.pair (.int .i64) (.pair (.slice (.int .i64)) (.int .i64))))], pin := 0 }
abbrev so_plaitref04_Right : Shape := { sl := [(0, (.hole .bool))], bl := [], ts := [.bool], pin := 0 }
noncomputable def F_plaitref04_Right (x : ((Int × (Int × (List (Int) × Int))))) : Option (Bool) :=
  bif (decide (x.1 < (0 : Int))) then
    some false
  else
    bif (decide (x.1 > (8 : Int))) then
      some false
    else
      bif ((((List.length x.2.2.1) : Nat) : Int) != x.1) then
        some false
      else
        bif (decide (x.2.2.2 < (0 : Int))) then
          some false
        else
          bif (decide (x.2.2.2 > x.1)) then
            some false
          else
            bif (x.2.1 == (0 : Int)) then
              some true
            else
              bif (decide (x.2.1 > (0 : Int))) then
                some (decide (x.2.1 < x.1))
              else
                some false
noncomputable def cx_plaitref04_Right : Ctx := { tb := mkTb T2.tbl, fx := [], sum := [], nt := 46, pin := 0, nr := true, ys := [] }
theorem F_plaitref04_Right_ok : Sound Try.prog 21 (Spec.shp si_plaitref04_Right so_plaitref04_Right F_plaitref04_Right) :=
  Sound.shp (C := cx_plaitref04_Right) (fn := Try.f21) (by kernel_rfl) (c := bodyOf Try.f21) (by kernel_rfl) (by decide) (ctxOK mixed tbl_ok rfl trivial trivial) (SumOK.of trivial) (by kernel_rfl) si_plaitref04_Right so_plaitref04_Right rfl (by decide) (by decide) rfl (by decide) rfl F_plaitref04_Right (fun x => by kernel_rfl)
abbrev si_plaitref05_May : Shape := { sl := [(0, (.hole (.pair (.int .i64) (.pair (.int .i64) (.int .i64)))))], bl := [], ts := [(.pair (.int .i64) (.pair (.int .i64) (.int .i64)))], pin := 0 }
abbrev so_plaitref05_May : Shape := { sl := [(0, (.hole .bool))], bl := [], ts := [.bool], pin := 0 }
noncomputable def F_plaitref05_May (x : ((Int × (Int × Int)))) : Option (Bool) :=
  bif (decide (x.1 ≥ (0 : Int))) then
    bif (decide (x.2.1 ≥ (0 : Int))) then
      some (decide (x.2.2 ≥ (0 : Int)))
    else
      some false
  else
    some false
noncomputable def cx_plaitref05_May : Ctx := { tb := mkTb T2.tbl, fx := [], sum := [], nt := 16, pin := 0, nr := true, ys := [] }
theorem F_plaitref05_May_ok : Sound Try.prog 11 (Spec.shp si_plaitref05_May so_plaitref05_May F_plaitref05_May) :=
  Sound.shp (C := cx_plaitref05_May) (fn := Try.f11) (by kernel_rfl) (c := bodyOf Try.f11) (by kernel_rfl) (by decide) (ctxOK mixed tbl_ok rfl trivial trivial) (SumOK.of trivial) (by kernel_rfl) si_plaitref05_May so_plaitref05_May rfl (by decide) (by decide) rfl (by decide) rfl F_plaitref05_May (fun x => by kernel_rfl)
abbrev sh_plaitref05_Has_3 : Shape := { sl := [(1, (.hole (.int .i64))), (2, (.hole (.int .i64))), (9, (.hole (.slice (.pair (.int .i64) (.pair (.int .i64) (.int .i64)))))), (10, (.hole (.int .i64))), (11, (.hole (.int .i64)))], bl := [], ts := [(.int .i64), (.int .i64), (.slice (.pair (.int .i64) (.pair (.int .i64) (.int .i64)))), (.int .i64), (.int .i64)], pin := 0 }
abbrev es_plaitref05_Has_3 : List (ETag × Shape) := [(.ret, { sl := [(6, (.hole .bool))], bl := [], ts := [.bool], pin := 0 }), (.exit 0, { sl := [], bl := [], ts := [], pin := 0 })]
noncomputable def L_plaitref05_Has_3 (x : (Int × Int × List ((Int × (Int × Int))) × Int × Int)) : Option ((Int × Int × List ((Int × (Int × Int))) × Int × Int) ⊕ ((Bool) ⊕ Unit)) :=
  bif (decide (x.2.2.2.2 < x.2.2.2.1)) then
    bif (Go.Proofs.Ytgnellpcphepjaa.VX.inb x.2.2.2.2 (List.length x.2.2.1)) then
      bif ((Go.Proofs.Ytgnellpcphepjaa.VX.getAt ((0 : Int), ((0 : Int), (0 : Int))) x.2.2.1 (Go.Proofs.Ytgnellpcphepjaa.VX.toN x.2.2.2.2)).1 == x.1) then
        bif ((Go.Proofs.Ytgnellpcphepjaa.VX.getAt ((0 : Int), ((0 : Int), (0 : Int))) x.2.2.1 (Go.Proofs.Ytgnellpcphepjaa.VX.toN x.2.2.2.2)).2.1 == x.2.1) then
          some (.inr (.inl true))
        else
          some (.inl (x.1, (x.2.1, (x.2.2.1, (x.2.2.2.1, (Go.IntKind.wrap Go.IntKind.i64 (x.2.2.2.2 + (1 : Int))))))))
      else
        some (.inl (x.1, (x.2.1, (x.2.2.1, (x.2.2.2.1, (Go.IntKind.wrap Go.IntKind.i64 (x.2.2.2.2 + (1 : Int))))))))
    else
      none
  else
    some (.inr (.inr ()))
noncomputable def cx_plaitref05_Has_3 : Ctx := { tb := mkTb T2.tbl, fx := [], sum := [], nt := 26, pin := 0, nr := true, ys := [] }
theorem L_plaitref05_Has_3_ok : CSound Try.prog ⟨26, 0, true⟩ (.loop (loopOf 3 Try.f57)) (pieceSpec sh_plaitref05_Has_3 es_plaitref05_Has_3 (loop L_plaitref05_Has_3)) :=
  loop_sound (C := cx_plaitref05_Has_3) (ctxOK mixed tbl_ok rfl trivial trivial) (SumOK.of trivial) sh_plaitref05_Has_3 es_plaitref05_Has_3 rfl rfl L_plaitref05_Has_3 (fun x => by kernel_rfl)
abbrev si_plaitref05_Has : Shape := { sl := [(0, (.hole (.slice (.pair (.int .i64) (.pair (.int .i64) (.int .i64)))))), (1, (.hole (.int .i64))), (2, (.hole (.int .i64)))], bl := [], ts := [(.slice (.pair (.int .i64) (.pair (.int .i64) (.int .i64)))), (.int .i64), (.int .i64)], pin := 0 }
abbrev so_plaitref05_Has : Shape := { sl := [(0, (.hole .bool))], bl := [], ts := [.bool], pin := 0 }
noncomputable def F_plaitref05_Has (x : (List ((Int × (Int × Int))) × Int × Int)) : Option (Bool) :=
  ((loop L_plaitref05_Has_3 (x.2.1, (x.2.2, (x.1, ((((List.length x.1) : Nat) : Int), (0 : Int))))))).bind fun r12 =>
  match r12 with
  | .inl y13 =>
    some y13
  | .inr y13 =>
    some false
noncomputable def cx_plaitref05_Has : Ctx := { tb := mkTb T2.tbl, fx := [], sum := [(0, 3, pieceSpec sh_plaitref05_Has_3 es_plaitref05_Has_3 (loop L_plaitref05_Has_3))], nt := 26, pin := 0, nr := true, ys := [] }
theorem F_plaitref05_Has_ok : Sound Try.prog 57 (Spec.shp si_plaitref05_Has so_plaitref05_Has F_plaitref05_Has) :=
  Sound.shp (C := cx_plaitref05_Has) (fn := Try.f57) (by kernel_rfl) (c := bodyOf Try.f57) (by kernel_rfl) (by decide) (ctxOK mixed tbl_ok rfl trivial trivial) (SumOK.of ⟨(pieces_one (d := .loop (loopOf 3 Try.f57)) (by kernel_rfl) L_plaitref05_Has_3_ok), trivial⟩) (by kernel_rfl) si_plaitref05_Has so_plaitref05_Has rfl (by decide) (by decide) rfl (by decide) rfl F_plaitref05_Has (fun x => by kernel_rfl)
abbrev sh_plaitref05_Right_3 : Shape := { sl := [(0, (.hole (.slice (.pair (.int .i64) (.pair (.int .i64) (.int .i64)))))), (5, (.hole (.slice (.pair (.int .i64) (.pair (.int .i64) (.int .i64)))))), (6, (.hole (.int .i64))), (7, (.hole (.int .i64)))], bl := [], ts := [(.slice (.pair (.int .i64) (.pair (.int .i64) (.int .i64)))), (.slice (.pair (.int .i64) (.pair (.int .i64) (.int .i64)))), (.int .i64), (.int .i64)], pin := 0 }
abbrev es_plaitref05_Right_3 : List (ETag × Shape) := [(.ret, { sl := [(2, (.hole .bool))], bl := [], ts := [.bool], pin := 0 }), (.exit 0, { sl := [(0, (.hole (.slice (.pair (.int .i64) (.pair (.int .i64) (.int .i64))))))], bl := [], ts := [(.slice (.pair (.int .i64) (.pair (.int .i64) (.int .i64))))], pin := 0 })]
noncomputable def L_plaitref05_Right_3 (x : (List ((Int × (Int × Int))) × List ((Int × (Int × Int))) × Int × Int)) : Option ((List ((Int × (Int × Int))) × List ((Int × (Int × Int))) × Int × Int) ⊕ ((Bool) ⊕ (List ((Int × (Int × Int)))))) :=
  bif (decide (x.2.2.2 < x.2.2.1)) then
    bif (Go.Proofs.Ytgnellpcphepjaa.VX.inb x.2.2.2 (List.length x.2.1)) then
      ((F_plaitref05_May (Go.Proofs.Ytgnellpcphepjaa.VX.getAt ((0 : Int), ((0 : Int), (0 : Int))) x.2.1 (Go.Proofs.Ytgnellpcphepjaa.VX.toN x.2.2.2)))).bind fun r10 =>
      bif (Bool.not r10) then
        some (.inr (.inl false))
      else
        bif (Go.Proofs.Ytgnellpcphepjaa.VX.sub3 (0 : Int) x.2.2.2 (List.length x.1)) then
          ((F_plaitref05_Has ((Go.Proofs.Ytgnellpcphepjaa.VX.cut x.1 (Go.Proofs.Ytgnellpcphepjaa.VX.toN (0 : Int)) ((Go.Proofs.Ytgnellpcphepjaa.VX.toN x.2.2.2) - (Go.Proofs.Ytgnellpcphepjaa.VX.toN (0 : Int)))), ((Go.Proofs.Ytgnellpcphepjaa.VX.getAt ((0 : Int), ((0 : Int), (0 : Int))) x.2.1 (Go.Proofs.Ytgnellpcphepjaa.VX.toN x.2.2.2)).1, (Go.Proofs.Ytgnellpcphepjaa.VX.getAt ((0 : Int), ((0 : Int), (0 : Int))) x.2.1 (Go.Proofs.Ytgnellpcphepjaa.VX.toN x.2.2.2)).2.1)))).bind fun r11 =>
          bif r11 then
            some (.inr (.inl false))
          else
            some (.inl (x.1, (x.2.1, (x.2.2.1, (Go.IntKind.wrap Go.IntKind.i64 (x.2.2.2 + (1 : Int)))))))
        else
          none
    else
      none
  else
    some (.inr (.inr x.1))
noncomputable def cx_plaitref05_Right_3 : Ctx := { tb := mkTb T2.tbl, fx := [(11, [], Spec.shp si_plaitref05_May so_plaitref05_May F_plaitref05_May), (57, [], Spec.shp si_plaitref05_Has so_plaitref05_Has F_plaitref05_Has)], sum := [], nt := 29, pin := 0, nr := true, ys := [] }
theorem L_plaitref05_Right_3_ok : CSound Try.prog ⟨29, 0, true⟩ (.loop (loopOf 3 Try.f37)) (pieceSpec sh_plaitref05_Right_3 es_plaitref05_Right_3 (loop L_plaitref05_Right_3)) :=
  loop_sound (C := cx_plaitref05_Right_3) (ctxOK mixed tbl_ok rfl ⟨F_plaitref05_May_ok, F_plaitref05_Has_ok, trivial⟩ trivial) (SumOK.of trivial) sh_plaitref05_Right_3 es_plaitref05_Right_3 rfl rfl L_plaitref05_Right_3 (fun x => by kernel_rfl)
abbrev si_plaitref05_Right : Shape := { sl := [(0, (.hole (.slice (.pair (.int .i64) (.pair (.int .i64) (.int .i64))))))], bl := [], ts := [(.slice (.pair (.int .i64) (.pair (.int .i64) (.int .i64))))], pin := 0 }
abbrev so_plaitref05_Right : Shape := { sl := [(0, (.hole .bool))], bl := [], ts := [.bool], pin := 0 }
noncomputable def F_plaitref05_Right (x : (List ((Int × (Int × Int))))) : Option (Bool) :=
  ((loop L_plaitref05_Right_3 (x, (x, ((((List.length x) : Nat) : Int), (0 : Int)))))).bind fun r9 =>
  match r9 with
  | .inl y10 =>
    some y10
  | .inr y10 =>
    some (decide ((((List.length y10) : Nat) : Int) ≤ (64 : Int)))
noncomputable def cx_plaitref05_Right : Ctx := { tb := mkTb T2.tbl, fx := [(11, [], Spec.shp si_plaitref05_May so_plaitref05_May F_plaitref05_May), (57, [], Spec.shp si_plaitref05_Has so_plaitref05_Has F_plaitref05_Has)], sum := [(0, 3, pieceSpec sh_plaitref05_Right_3 es_plaitref05_Right_3 (loop L_plaitref05_Right_3))], nt := 29, pin := 0, nr := true, ys := [] }
theorem F_plaitref05_Right_ok : Sound Try.prog 37 (Spec.shp si_plaitref05_Right so_plaitref05_Right F_plaitref05_Right) :=
  Sound.shp (C := cx_plaitref05_Right) (fn := Try.f37) (by kernel_rfl) (c := bodyOf Try.f37) (by kernel_rfl) (by decide) (ctxOK mixed tbl_ok rfl ⟨F_plaitref05_May_ok, F_plaitref05_Has_ok, trivial⟩ trivial) (SumOK.of ⟨(pieces_one (d := .loop (loopOf 3 Try.f37)) (by kernel_rfl) L_plaitref05_Right_3_ok), trivial⟩) (by kernel_rfl) si_plaitref05_Right so_plaitref05_Right rfl (by decide) (by decide) rfl (by decide) rfl F_plaitref05_Right (fun x => by kernel_rfl)
abbrev sh_plaitref04_Items_4 : Shape := { sl := [(1, (.ptr 0 [])), (3, (.sl 1)), (4, (.hole (.int .i64)))], bl := [.var (.hole (.pair (.int .i64) (.pair (.int .i64) (.pair (.slice (.int .i64)) (.int .i64))))), .row (.int .i64)], ts := [(.int .i64), (.pair (.int .i64) (.pair (.int .i64) (.pair (.slice (.int .i64)) (.int .i64)))), (.slice (.int .i64))], pin := 0 }
abbrev es_plaitref04_Items_4 : List (ETag × Shape) := [(.exit 0, { sl := [(3, (.sl 0))], bl := [.row (.int .i64)], ts := [(.slice (.int .i64))], pin := 0 })]
noncomputable def L_plaitref04_Items_4 (x : (Int × (Int × (Int × (List (Int) × Int))) × List (Int))) : Option ((Int × (Int × (Int × (List (Int) × Int))) × List (Int)) ⊕ ((List (Int)))) :=
  bif (decide (x.1 < x.2.1.2.2.2)) then
    bif (decide ((Go.IntKind.wrap Go.IntKind.i64 (x.2.1.2.1 + x.1)) ≥ x.2.1.1)) then
      bif (Go.Proofs.Ytgnellpcphepjaa.VX.inb (Go.IntKind.wrap Go.IntKind.i64 ((Go.IntKind.wrap Go.IntKind.i64 (x.2.1.2.1 + x.1)) - x.2.1.1)) (List.length x.2.1.2.2.1)) then
        bif (Go.Proofs.Ytgnellpcphepjaa.VX.fits ((List.length x.2.2) + (List.length ((Go.Proofs.Ytgnellpcphepjaa.VX.getAt (0 : Int) x.2.1.2.2.1 (Go.Proofs.Ytgnellpcphepjaa.VX.toN (Go.IntKind.wrap Go.IntKind.i64 ((Go.IntKind.wrap Go.IntKind.i64 (x.2.1.2.1 + x.1)) - x.2.1.1)))) :: ([] : List Int))))) then
          some (.inl ((Go.IntKind.wrap Go.IntKind.i64 (x.1 + (1 : Int))), (x.2.1, (x.2.2 ++ ((Go.Proofs.Ytgnellpcphepjaa.VX.getAt (0 : Int) x.2.1.2.2.1 (Go.Proofs.Ytgnellpcphepjaa.VX.toN (Go.IntKind.wrap Go.IntKind.i64 ((Go.IntKind.wrap Go.IntKind.i64 (x.2.1.2.1 + x.1)) - x.2.1.1)))) :: ([] : List Int))))))
        else
          none
      else
        none
    else
      bif (Go.Proofs.Ytgnellpcphepjaa.VX.inb (Go.IntKind.wrap Go.IntKind.i64 (x.2.1.2.1 + x.1)) (List.length x.2.1.2.2.1)) then
        bif (Go.Proofs.Ytgnellpcphepjaa.VX.fits ((List.length x.2.2) + (List.length ((Go.Proofs.Ytgnellpcphepjaa.VX.getAt (0 : Int) x.2.1.2.2.1 (Go.Proofs.Ytgnellpcphepjaa.VX.toN (Go.IntKind.wrap Go.IntKind.i64 (x.2.1.2.1 + x.1)))) :: ([] : List Int))))) then
          some (.inl ((Go.IntKind.wrap Go.IntKind.i64 (x.1 + (1 : Int))), (x.2.1, (x.2.2 ++ ((Go.Proofs.Ytgnellpcphepjaa.VX.getAt (0 : Int) x.2.1.2.2.1 (Go.Proofs.Ytgnellpcphepjaa.VX.toN (Go.IntKind.wrap Go.IntKind.i64 (x.2.1.2.1 + x.1)))) :: ([] : List Int))))))
        else
          none
      else
        none
  else
    some (.inr x.2.2)
noncomputable def cx_plaitref04_Items_4 : Ctx := { tb := mkTb T2.tbl, fx := [], sum := [], nt := 34, pin := 0, nr := true, ys := [] }
theorem L_plaitref04_Items_4_ok : CSound Try.prog ⟨34, 0, true⟩ (.loop (loopOf 4 Try.f44)) (pieceSpec sh_plaitref04_Items_4 es_plaitref04_Items_4 (loop L_plaitref04_Items_4)) :=
  loop_sound (C := cx_plaitref04_Items_4) (ctxOK mixed tbl_ok rfl trivial trivial) (SumOK.of trivial) sh_plaitref04_Items_4 es_plaitref04_Items_4 rfl rfl L_plaitref04_Items_4 (fun x => by kernel_rfl)
abbrev si_plaitref04_Items : Shape := { sl := [(0, (.hole (.pair (.int .i64) (.pair (.int .i64) (.pair (.slice (.int .i64)) (.int .i64))))))], bl := [], ts := [(.pair (.int .i64) (.pair (.int .i64) (.pair (.slice (.int .i64)) (.int .i64))))], pin := 0 }
abbrev so_plaitref04_Items : Shape := { sl := [(0, (.hole (.slice (.int .i64))))], bl := [], ts := [(.slice (.int .i64))], pin := 0 }
noncomputable def F_plaitref04_Items (x : ((Int × (Int × (List (Int) × Int))))) : Option (List (Int)) :=
  ((loop L_plaitref04_Items_4 ((0 : Int), (x, ([] : List Int))))).bind fun r12 =>
  some r12
noncomputable def cx_plaitref04_Items : Ctx := { tb := mkTb T2.tbl, fx := [], sum := [(0, 4, pieceSpec sh_plaitref04_Items_4 es_plaitref04_Items_4 (loop L_plaitref04_Items_4))], nt := 34, pin := 0, nr := true, ys := [] }
theorem F_plaitref04_Items_ok : Sound Try.prog 44 (Spec.shp si_plaitref04_Items so_plaitref04_Items F_plaitref04_Items) :=
  Sound.shp (C := cx_plaitref04_Items) (fn := Try.f44) (by kernel_rfl) (c := bodyOf Try.f44) (by kernel_rfl) (by decide) (ctxOK mixed tbl_ok rfl trivial trivial) (SumOK.of ⟨(pieces_one (d := .loop (loopOf 4 Try.f44)) (by kernel_rfl) L_plaitref04_Items_4_ok), trivial⟩) (by kernel_rfl) si_plaitref04_Items so_plaitref04_Items rfl (by decide) (by decide) rfl (by decide) rfl F_plaitref04_Items (fun x => by kernel_rfl)
abbrev sh_plaitref09_numbers_4 : Shape := { sl := [(1, (.hole (.int .i64))), (2, (.hole (.int .i64))), (7, (.hole (.slice (.int .i64)))), (12, (.hole (.slice (.int .i64)))), (13, (.hole (.int .i64))), (14, (.hole (.int .i64)))], bl := [], ts := [(.int .i64), (.int .i64), (.slice (.int .i64)), (.slice (.int .i64)), (.int .i64), (.int .i64)], pin := 0 }
abbrev es_plaitref09_numbers_4 : List (ETag × Shape) := [(.ret, { sl := [(6, (.hole .bool))], bl := [], ts := [.bool], pin := 0 }), (.exit 0, { sl := [(1, (.hole (.int .i64))), (2, (.hole (.int .i64))), (7, (.hole (.slice (.int .i64))))], bl := [], ts := [(.int .i64), (.int .i64), (.slice (.int .i64))], pin := 0 })]
noncomputable def L_plaitref09_numbers_4 (x : (Int × Int × List (Int) × List (Int) × Int × Int)) : Option ((Int × Int × List (Int) × List (Int) × Int × Int) ⊕ ((Bool) ⊕ (Int × Int × List (Int)))) :=
  bif (decide (x.2.2.2.2.2 < x.2.2.2.2.1)) then
    bif (Go.Proofs.Ytgnellpcphepjaa.VX.inb x.2.2.2.2.2 (List.length x.2.2.2.1)) then
      bif ((Go.Proofs.Ytgnellpcphepjaa.VX.getAt (0 : Int) x.2.2.2.1 (Go.Proofs.Ytgnellpcphepjaa.VX.toN x.2.2.2.2.2)) != (Go.IntKind.wrap Go.IntKind.i64 (x.1 + x.2.2.2.2.2))) then
        some (.inr (.inl false))
      else
        some (.inl (x.1, (x.2.1, (x.2.2.1, (x.2.2.2.1, (x.2.2.2.2.1, (Go.IntKind.wrap Go.IntKind.i64 (x.2.2.2.2.2 + (1 : Int)))))))))
    else
      none
  else
    some (.inr (.inr (x.1, (x.2.1, x.2.2.1))))
noncomputable def cx_plaitref09_numbers_4 : Ctx := { tb := mkTb T2.tbl, fx := [(44, [], Spec.shp si_plaitref04_Items so_plaitref04_Items F_plaitref04_Items)], sum := [], nt := 31, pin := 0, nr := true, ys := [] }
theorem L_plaitref09_numbers_4_ok : CSound Try.prog ⟨31, 0, true⟩ (.loop (loopOf 4 Try.f38)) (pieceSpec sh_plaitref09_numbers_4 es_plaitref09_numbers_4 (loop L_plaitref09_numbers_4)) :=
  loop_sound (C := cx_plaitref09_numbers_4) (ctxOK mixed tbl_ok rfl ⟨F_plaitref04_Items_ok, trivial⟩ trivial) (SumOK.of trivial) sh_plaitref09_numbers_4 es_plaitref09_numbers_4 rfl rfl L_plaitref09_numbers_4 (fun x => by kernel_rfl)
abbrev si_plaitref09_numbers : Shape := { sl := [(0, (.hole (.pair (.int .i64) (.pair (.int .i64) (.pair (.slice (.int .i64)) (.int .i64)))))), (1, (.hole (.int .i64))), (2, (.hole (.int .i64)))], bl := [], ts := [(.pair (.int .i64) (.pair (.int .i64) (.pair (.slice (.int .i64)) (.int .i64)))), (.int .i64), (.int .i64)], pin := 0 }
abbrev so_plaitref09_numbers : Shape := { sl := [(0, (.hole .bool))], bl := [], ts := [.bool], pin := 0 }
noncomputable def F_plaitref09_numbers (x : ((Int × (Int × (List (Int) × Int))) × Int × Int)) : Option (Bool) :=
  ((F_plaitref04_Items x.1)).bind fun r11 =>
  ((loop L_plaitref09_numbers_4 (x.2.1, (x.2.2, (r11, (r11, ((((List.length r11) : Nat) : Int), (0 : Int)))))))).bind fun r12 =>
  match r12 with
  | .inl y13 =>
    some y13
  | .inr y13 =>
    some ((((List.length y13.2.2) : Nat) : Int) == (Go.IntKind.wrap Go.IntKind.i64 (y13.2.1 - y13.1)))
noncomputable def cx_plaitref09_numbers : Ctx := { tb := mkTb T2.tbl, fx := [(44, [], Spec.shp si_plaitref04_Items so_plaitref04_Items F_plaitref04_Items)], sum := [(0, 4, pieceSpec sh_plaitref09_numbers_4 es_plaitref09_numbers_4 (loop L_plaitref09_numbers_4))], nt := 31, pin := 0, nr := true, ys := [] }
theorem F_plaitref09_numbers_ok : Sound Try.prog 38 (Spec.shp si_plaitref09_numbers so_plaitref09_numbers F_plaitref09_numbers) :=
  Sound.shp (C := cx_plaitref09_numbers) (fn := Try.f38) (by kernel_rfl) (c := bodyOf Try.f38) (by kernel_rfl) (by decide) (ctxOK mixed tbl_ok rfl ⟨F_plaitref04_Items_ok, trivial⟩ trivial) (SumOK.of ⟨(pieces_one (d := .loop (loopOf 4 Try.f38)) (by kernel_rfl) L_plaitref09_numbers_4_ok), trivial⟩) (by kernel_rfl) si_plaitref09_numbers so_plaitref09_numbers rfl (by decide) (by decide) rfl (by decide) rfl F_plaitref09_numbers (fun x => by kernel_rfl)
abbrev si_plaitref09_Right : Shape := { sl := [(0, (.hole (.pair (.int .i64) (.pair .bool (.pair (.pair (.int .i64) (.pair (.int .i64) (.pair (.slice (.int .i64)) (.int .i64)))) (.pair (.int .i64) (.pair (.int .i64) (.pair (.slice (.pair (.int .i64) (.pair (.int .i64) (.int .i64)))) (.slice (.pair (.int .i64) (.pair (.int .i64) (.int .i64))))))))))))], bl := [], ts := [(.pair (.int .i64) (.pair .bool (.pair (.pair (.int .i64) (.pair (.int .i64) (.pair (.slice (.int .i64)) (.int .i64)))) (.pair (.int .i64) (.pair (.int .i64) (.pair (.slice (.pair (.int .i64) (.pair (.int .i64) (.int .i64)))) (.slice (.pair (.int .i64) (.pair (.int .i64) (.int .i64))))))))))], pin := 0 }
abbrev so_plaitref09_Right : Shape := { sl := [(0, (.hole .bool))], bl := [], ts := [.bool], pin := 0 }
noncomputable def F_plaitref09_Right (x : ((Int × (Bool × ((Int × (Int × (List (Int) × Int))) × (Int × (Int × (List ((Int × (Int × Int))) × List ((Int × (Int × Int))))))))))) : Option (Bool) :=
  bif (decide (x.1 < (Int.negSucc 0))) then
    some false
  else
    bif (decide (x.1 > (3 : Int))) then
      some false
    else
      ((F_plaitref04_Right x.2.2.1)).bind fun r7 =>
      bif (Bool.not r7) then
        some false
      else
        bif (x.2.2.1.1 != (Max.max x.1 (0 : Int))) then
          some false
        else
          ((F_plaitref05_Right x.2.2.2.2.2.1)).bind fun r8 =>
          bif (Bool.not r8) then
            some false
          else
            ((F_plaitref05_Right x.2.2.2.2.2.2)).bind fun r9 =>
            bif (Bool.not r9) then
              some false
            else
              bif (decide (x.2.2.2.1 < (0 : Int))) then
                some false
              else
                bif (decide (x.2.2.2.1 > (1048576 : Int))) then
                  some false
                else
                  bif (decide (x.2.2.2.2.1 < (0 : Int))) then
                    some false
                  else
                    bif (decide (x.2.2.2.2.1 > x.2.2.2.1)) then
                      some false
                    else
                      ((F_plaitref09_numbers (x.2.2.1, (x.2.2.2.2.1, x.2.2.2.1)))).bind fun r10 =>
                      bif (Bool.not r10) then
                        some false
                      else
                        bif (x.1 == (Int.negSucc 0)) then
                          bif (Bool.not x.2.1) then
                            bif (x.2.2.2.1 == (0 : Int)) then
                              some ((Go.IntKind.wrap Go.IntKind.i64 ((((List.length x.2.2.2.2.2.1) : Nat) : Int) + (((List.length x.2.2.2.2.2.2) : Nat) : Int))) == (0 : Int))
                            else
                              some false
                          else
                            some false
                        else
                          bif x.2.1 then
                            bif (decide ((Go.IntKind.wrap Go.IntKind.i64 ((((List.length x.2.2.2.2.2.1) : Nat) : Int) + (((List.length x.2.2.2.2.2.2) : Nat) : Int))) > (0 : Int))) then
                              some false
                            else
                              bif ((((List.length x.2.2.2.2.2.1) : Nat) : Int) == (0 : Int)) then
                                bif ((((List.length x.2.2.2.2.2.2) : Nat) : Int) == (0 : Int)) then
                                  some true
                                else
                                  some (x.2.2.1.2.2.2 == (0 : Int))
                              else
                                bif (x.2.2.1.2.2.2 == x.1) then
                                  bif ((((List.length x.2.2.2.2.2.2) : Nat) : Int) == (0 : Int)) then
                                    some true
                                  else
                                    some (x.2.2.1.2.2.2 == (0 : Int))
                                else
                                  some false
                          else
                            bif ((((List.length x.2.2.2.2.2.1) : Nat) : Int) == (0 : Int)) then
                              bif ((((List.length x.2.2.2.2.2.2) : Nat) : Int) == (0 : Int)) then
                                some true
                              else
                                some (x.2.2.1.2.2.2 == (0 : Int))
                            else
                              bif (x.2.2.1.2.2.2 == x.1) then
                                bif ((((List.length x.2.2.2.2.2.2) : Nat) : Int) == (0 : Int)) then
                                  some true
                                else
                                  some (x.2.2.1.2.2.2 == (0 : Int))
                              else
                                some false
noncomputable def cx_plaitref09_Right : Ctx := { tb := mkTb T2.tbl, fx := [(21, [], Spec.shp si_plaitref04_Right so_plaitref04_Right F_plaitref04_Right), (37, [], Spec.shp si_plaitref05_Right so_plaitref05_Right F_plaitref05_Right), (38, [], Spec.shp si_plaitref09_numbers so_plaitref09_numbers F_plaitref09_numbers)], sum := [], nt := 121, pin := 0, nr := true, ys := [] }
theorem F_plaitref09_Right_ok : Sound Try.prog 10 (Spec.shp si_plaitref09_Right so_plaitref09_Right F_plaitref09_Right) :=
  Sound.shp (C := cx_plaitref09_Right) (fn := Try.f10) (by kernel_rfl) (c := bodyOf Try.f10) (by kernel_rfl) (by decide) (ctxOK mixed tbl_ok rfl ⟨F_plaitref04_Right_ok, F_plaitref05_Right_ok, F_plaitref09_numbers_ok, trivial⟩ trivial) (SumOK.of trivial) (by kernel_rfl) si_plaitref09_Right so_plaitref09_Right rfl (by decide) (by decide) rfl (by decide) rfl F_plaitref09_Right (fun x => by kernel_rfl)
abbrev si_chans_isWait : Shape := { sl := [(0, (.hole (.pair (.int .i64) (.pair (.int .i64) (.int .i64)))))], bl := [], ts := [(.pair (.int .i64) (.pair (.int .i64) (.int .i64)))], pin := 0 }
abbrev so_chans_isWait : Shape := { sl := [(0, (.hole .bool))], bl := [], ts := [.bool], pin := 0 }
noncomputable def F_chans_isWait (x : ((Int × (Int × Int)))) : Option (Bool) :=
  bif (decide (x.1 ≥ (0 : Int))) then
    bif (decide (x.2.1 ≥ (0 : Int))) then
      some (decide (x.2.2 ≥ (0 : Int)))
    else
      some false
  else
    some false
noncomputable def cx_chans_isWait : Ctx := { tb := mkTb T2.tbl, fx := [], sum := [], nt := 16, pin := 0, nr := true, ys := [] }
theorem F_chans_isWait_ok : Sound Try.prog 28 (Spec.shp si_chans_isWait so_chans_isWait F_chans_isWait) :=
  Sound.shp (C := cx_chans_isWait) (fn := Try.f28) (by kernel_rfl) (c := bodyOf Try.f28) (by kernel_rfl) (by decide) (ctxOK mixed tbl_ok rfl trivial trivial) (SumOK.of trivial) (by kernel_rfl) si_chans_isWait so_chans_isWait rfl (by decide) (by decide) rfl (by decide) rfl F_chans_isWait (fun x => by kernel_rfl)
abbrev si_ring_Pop : Shape := { sl := [(0, (.hole (.pair (.int .i64) (.pair (.int .i64) (.pair (.slice (.int .i64)) (.int .i64))))))], bl := [], ts := [(.pair (.int .i64) (.pair (.int .i64) (.pair (.slice (.int .i64)) (.int .i64))))], pin := 0 }
abbrev so_ring_Pop : Shape := { sl := [(0, (.hole (.pair (.int .i64) (.pair (.int .i64) (.pair (.slice (.int .i64)) (.int .i64)))))), (1, (.hole (.int .i64))), (2, (.hole (.int .i64)))], bl := [], ts := [(.pair (.int .i64) (.pair (.int .i64) (.pair (.slice (.int .i64)) (.int .i64)))), (.int .i64), (.int .i64)], pin := 0 }
noncomputable def F_ring_Pop (x : ((Int × (Int × (List (Int) × Int))))) : Option ((Int × (Int × (List (Int) × Int))) × Int × Int) :=
  ((F_ring_Right x)).bind fun r18 =>
  bif (Bool.not r18) then
    some (((0 : Int), ((0 : Int), (([] : List Int), (0 : Int)))), ((0 : Int), (1 : Int)))
  else
    bif (x.2.2.2 == (0 : Int)) then
      some (((0 : Int), ((0 : Int), (([] : List Int), (0 : Int)))), ((0 : Int), (4 : Int)))
    else
      ((F_ring_places_at (x, (0 : Int)))).bind fun r19 =>
      bif (Go.Proofs.Ytgnellpcphepjaa.VX.inb r19 (List.length x.2.2.1)) then
        ((F_ring_places_at (x, (1 : Int)))).bind fun r20 =>
        some ((x.1, (r20, (x.2.2.1, (Go.IntKind.wrap Go.IntKind.i64 (x.2.2.2 - (1 : Int)))))), ((Go.Proofs.Ytgnellpcphepjaa.VX.getAt (0 : Int) x.2.2.1 (Go.Proofs.Ytgnellpcphepjaa.VX.toN r19)), (0 : Int)))
      else
        none
noncomputable def cx_ring_Pop : Ctx := { tb := mkTb T2.tbl, fx := [(59, [], Spec.shp si_ring_Right so_ring_Right F_ring_Right), (67, [], Spec.shp si_ring_places_at so_ring_places_at F_ring_places_at)], sum := [], nt := 34, pin := 0, nr := true, ys := [] }
theorem F_ring_Pop_ok : Sound Try.prog 56 (Spec.shp si_ring_Pop so_ring_Pop F_ring_Pop) :=
  Sound.shp (C := cx_ring_Pop) (fn := Try.f56) (by kernel_rfl) (c := bodyOf Try.f56) (by kernel_rfl) (by decide) (ctxOK mixed tbl_ok rfl ⟨F_ring_Right_ok, F_ring_places_at_ok, trivial⟩ trivial) (SumOK.of trivial) (by kernel_rfl) si_ring_Pop so_ring_Pop rfl (by decide) (by decide) rfl (by decide) rfl F_ring_Pop (fun x => by kernel_rfl)
abbrev si_chans_work_pop : Shape := { sl := [(0, (.ptr 0 []))], bl := [.var (.hole (.pair (.pair (.int .i64) (.pair .bool (.pair (.pair (.int .i64) (.pair (.int .i64) (.pair (.slice (.int .i64)) (.int .i64)))) (.pair (.int .i64) (.pair (.int .i64) (.pair (.slice (.pair (.int .i64) (.pair (.int .i64) (.int .i64)))) (.slice (.pair (.int .i64) (.pair (.int .i64) (.int .i64)))))))))) (.int .i64)))], ts := [(.pair (.pair (.int .i64) (.pair .bool (.pair (.pair (.int .i64) (.pair (.int .i64) (.pair (.slice (.int .i64)) (.int .i64)))) (.pair (.int .i64) (.pair (.int .i64) (.pair (.slice (.pair (.int .i64) (.pair (.int .i64) (.int .i64)))) (.slice (.pair (.int .i64) (.pair (.int .i64) (.int .i64)))))))))) (.int .i64))], pin := 0 }
abbrev so_chans_work_pop : Shape := { sl := [(0, (.hole (.int .i64)))], bl := [.var (.hole (.pair (.pair (.int .i64) (.pair .bool (.pair (.pair (.int .i64) (.pair (.int .i64) (.pair (.slice (.int .i64)) (.int .i64)))) (.pair (.int .i64) (.pair (.int .i64) (.pair (.slice (.pair (.int .i64) (.pair (.int .i64) (.int .i64)))) (.slice (.pair (.int .i64) (.pair (.int .i64) (.int .i64)))))))))) (.int .i64)))], ts := [(.int .i64), (.pair (.pair (.int .i64) (.pair .bool (.pair (.pair (.int .i64) (.pair (.int .i64) (.pair (.slice (.int .i64)) (.int .i64)))) (.pair (.int .i64) (.pair (.int .i64) (.pair (.slice (.pair (.int .i64) (.pair (.int .i64) (.int .i64)))) (.slice (.pair (.int .i64) (.pair (.int .i64) (.int .i64)))))))))) (.int .i64))], pin := 1 }
noncomputable def F_chans_work_pop (x : (((Int × (Bool × ((Int × (Int × (List (Int) × Int))) × (Int × (Int × (List ((Int × (Int × Int))) × List ((Int × (Int × Int))))))))) × Int))) : Option (Int × ((Int × (Bool × ((Int × (Int × (List (Int) × Int))) × (Int × (Int × (List ((Int × (Int × Int))) × List ((Int × (Int × Int))))))))) × Int)) :=
  ((F_ring_Pop x.1.2.2.1)).bind fun r17 =>
  some (r17.2.1, ((x.1.1, (x.1.2.1, (r17.1, (x.1.2.2.2.1, ((Go.IntKind.wrap Go.IntKind.i64 (x.1.2.2.2.2.1 + (1 : Int))), x.1.2.2.2.2.2))))), x.2))
noncomputable def cx_chans_work_pop : Ctx := { tb := mkTb T2.tbl, fx := [(56, [], Spec.shp si_ring_Pop so_ring_Pop F_ring_Pop)], sum := [], nt := 28, pin := 1, nr := true, ys := [] }
theorem F_chans_work_pop_ok : Sound Try.prog 36 (Spec.shp si_chans_work_pop so_chans_work_pop F_chans_work_pop) :=
  Sound.shp (C := cx_chans_work_pop) (fn := Try.f36) (by kernel_rfl) (c := bodyOf Try.f36) (by kernel_rfl) (by decide) (ctxOK mixed tbl_ok rfl ⟨F_ring_Pop_ok, trivial⟩ trivial) (SumOK.of trivial) (by kernel_rfl) si_chans_work_pop so_chans_work_pop rfl (by decide) (by decide) rfl (by decide) rfl F_chans_work_pop (fun x => by kernel_rfl)
abbrev si_slices_Clone_int : Shape := { sl := [(0, (.hole (.slice (.int .i64))))], bl := [], ts := [(.slice (.int .i64))], pin := 0 }
abbrev so_slices_Clone_int : Shape := { sl := [(0, (.sl 0))], bl := [.row (.int .i64)], ts := [(.slice (.int .i64))], pin := 0 }
noncomputable def F_slices_Clone_int (x : (List (Int))) : Option (List (Int)) :=
  bif (@Nat.beq (List.length x) (0 : Nat)) then
    amb (
      some ([] : List Int)) (
      bif (Go.Proofs.Ytgnellpcphepjaa.VX.fits ((List.length ([] : List Int)) + (List.length x))) then
        some (([] : List Int) ++ x)
      else
        none)
  else
    bif (Go.Proofs.Ytgnellpcphepjaa.VX.fits ((List.length ([] : List Int)) + (List.length x))) then
      some (([] : List Int) ++ x)
    else
      none
noncomputable def cx_slices_Clone_int : Ctx := { tb := mkTb T2.tbl, fx := [], sum := [], nt := 8, pin := 0, nr := true, ys := [] }
theorem F_slices_Clone_int_ok : Sound Try.prog 68 (Spec.shp si_slices_Clone_int so_slices_Clone_int F_slices_Clone_int) :=
  Sound.shp (C := cx_slices_Clone_int) (fn := Try.f68) (by kernel_rfl) (c := bodyOf Try.f68) (by kernel_rfl) (by decide) (ctxOK mixed tbl_ok rfl trivial trivial) (SumOK.of trivial) (by kernel_rfl) si_slices_Clone_int so_slices_Clone_int rfl (by decide) (by decide) rfl (by decide) rfl F_slices_Clone_int (fun x => by kernel_rfl)
abbrev si_ring_places_at_lent : Shape := { sl := [(0, (.one (.pr (.hole (.int .i64)) (.pr (.hole (.int .i64)) (.pr (.sl 0) (.hole (.int .i64))))))), (1, (.hole (.int .i64)))], bl := [.row (.int .i64)], ts := [(.int .i64), (.int .i64), (.int .i64), (.int .i64), (.slice (.int .i64))], pin := 0 }
abbrev so_ring_places_at_lent : Shape := { sl := [(0, (.hole (.int .i64)))], bl := [.row (.int .i64)], ts := [(.int .i64), (.slice (.int .i64))], pin := 1 }
noncomputable def F_ring_places_at_lent (x : (Int × Int × Int × Int × List (Int))) : Option (Int × List (Int)) :=
  bif (x.1 != (0 : Int)) then
    some ((Int.tmod (Go.IntKind.wrap Go.IntKind.i64 (x.2.1 + x.2.2.2.1)) x.1), x.2.2.2.2)
  else
    none
noncomputable def cx_ring_places_at_lent : Ctx := { tb := mkTb T2.tbl, fx := [], sum := [], nt := 14, pin := 1, nr := true, ys := [] }
theorem F_ring_places_at_lent_ok : Sound Try.prog 67 (Spec.shp si_ring_places_at_lent so_ring_places_at_lent F_ring_places_at_lent) :=
  Sound.shp (C := cx_ring_places_at_lent) (fn := Try.f67) (by kernel_rfl) (c := bodyOf Try.f67) (by kernel_rfl) (by decide) (ctxOK mixed tbl_ok rfl trivial trivial) (SumOK.of trivial) (by kernel_rfl) si_ring_places_at_lent so_ring_places_at_lent rfl (by decide) (by decide) rfl (by decide) rfl F_ring_places_at_lent (fun x => by kernel_rfl)
abbrev si_ring_Push : Shape := { sl := [(0, (.hole (.pair (.int .i64) (.pair (.int .i64) (.pair (.slice (.int .i64)) (.int .i64)))))), (1, (.hole (.int .i64)))], bl := [], ts := [(.pair (.int .i64) (.pair (.int .i64) (.pair (.slice (.int .i64)) (.int .i64)))), (.int .i64)], pin := 0 }
abbrev so_ring_Push : Shape := { sl := [(0, (.hole (.pair (.int .i64) (.pair (.int .i64) (.pair (.slice (.int .i64)) (.int .i64)))))), (1, (.hole (.int .i64)))], bl := [], ts := [(.pair (.int .i64) (.pair (.int .i64) (.pair (.slice (.int .i64)) (.int .i64)))), (.int .i64)], pin := 0 }
noncomputable def F_ring_Push (x : ((Int × (Int × (List (Int) × Int))) × Int)) : Option ((Int × (Int × (List (Int) × Int))) × Int) :=
  ((F_ring_Right x.1)).bind fun r19 =>
  bif (Bool.not r19) then
    some (((0 : Int), ((0 : Int), (([] : List Int), (0 : Int)))), (1 : Int))
  else
    bif (x.1.2.2.2 == x.1.1) then
      some (((0 : Int), ((0 : Int), (([] : List Int), (0 : Int)))), (5 : Int))
    else
      ((F_slices_Clone_int x.1.2.2.1)).bind fun r20 =>
      ((F_ring_places_at_lent (x.1.1, (x.1.2.1, (x.1.2.2.2, (x.1.2.2.2, r20)))))).bind fun r21 =>
      bif (Go.Proofs.Ytgnellpcphepjaa.VX.inb r21.1 (List.length r21.2)) then
        some ((x.1.1, (x.1.2.1, ((List.set r21.2 (Go.Proofs.Ytgnellpcphepjaa.VX.toN r21.1) x.2), (Go.IntKind.wrap Go.IntKind.i64 (x.1.2.2.2 + (1 : Int)))))), (0 : Int))
      else
        none
noncomputable def cx_ring_Push : Ctx := { tb := mkTb T2.tbl, fx := [(59, [], Spec.shp si_ring_Right so_ring_Right F_ring_Right), (68, [], Spec.shp si_slices_Clone_int so_slices_Clone_int F_slices_Clone_int), (67, [2000000], Spec.shp si_ring_places_at_lent so_ring_places_at_lent F_ring_places_at_lent)], sum := [], nt := 38, pin := 0, nr := true, ys := [] }
theorem F_ring_Push_ok : Sound Try.prog 52 (Spec.shp si_ring_Push so_ring_Push F_ring_Push) :=
  Sound.shp (C := cx_ring_Push) (fn := Try.f52) (by kernel_rfl) (c := bodyOf Try.f52) (by kernel_rfl) (by decide) (ctxOK mixed tbl_ok rfl ⟨F_ring_Right_ok, F_slices_Clone_int_ok, F_ring_places_at_lent_ok, trivial⟩ trivial) (SumOK.of trivial) (by kernel_rfl) si_ring_Push so_ring_Push rfl (by decide) (by decide) rfl (by decide) rfl F_ring_Push (fun x => by kernel_rfl)
abbrev si_chans_work_push : Shape := { sl := [(0, (.ptr 0 []))], bl := [.var (.hole (.pair (.pair (.int .i64) (.pair .bool (.pair (.pair (.int .i64) (.pair (.int .i64) (.pair (.slice (.int .i64)) (.int .i64)))) (.pair (.int .i64) (.pair (.int .i64) (.pair (.slice (.pair (.int .i64) (.pair (.int .i64) (.int .i64)))) (.slice (.pair (.int .i64) (.pair (.int .i64) (.int .i64)))))))))) (.int .i64)))], ts := [(.pair (.pair (.int .i64) (.pair .bool (.pair (.pair (.int .i64) (.pair (.int .i64) (.pair (.slice (.int .i64)) (.int .i64)))) (.pair (.int .i64) (.pair (.int .i64) (.pair (.slice (.pair (.int .i64) (.pair (.int .i64) (.int .i64)))) (.slice (.pair (.int .i64) (.pair (.int .i64) (.int .i64)))))))))) (.int .i64))], pin := 0 }
abbrev so_chans_work_push : Shape := { sl := [(0, (.hole (.int .i64)))], bl := [.var (.hole (.pair (.pair (.int .i64) (.pair .bool (.pair (.pair (.int .i64) (.pair (.int .i64) (.pair (.slice (.int .i64)) (.int .i64)))) (.pair (.int .i64) (.pair (.int .i64) (.pair (.slice (.pair (.int .i64) (.pair (.int .i64) (.int .i64)))) (.slice (.pair (.int .i64) (.pair (.int .i64) (.int .i64)))))))))) (.int .i64)))], ts := [(.int .i64), (.pair (.pair (.int .i64) (.pair .bool (.pair (.pair (.int .i64) (.pair (.int .i64) (.pair (.slice (.int .i64)) (.int .i64)))) (.pair (.int .i64) (.pair (.int .i64) (.pair (.slice (.pair (.int .i64) (.pair (.int .i64) (.int .i64)))) (.slice (.pair (.int .i64) (.pair (.int .i64) (.int .i64)))))))))) (.int .i64))], pin := 1 }
noncomputable def F_chans_work_push (x : (((Int × (Bool × ((Int × (Int × (List (Int) × Int))) × (Int × (Int × (List ((Int × (Int × Int))) × List ((Int × (Int × Int))))))))) × Int))) : Option (Int × ((Int × (Bool × ((Int × (Int × (List (Int) × Int))) × (Int × (Int × (List ((Int × (Int × Int))) × List ((Int × (Int × Int))))))))) × Int)) :=
  ((F_ring_Push (x.1.2.2.1, x.1.2.2.2.1))).bind fun r18 =>
  some (x.1.2.2.2.1, ((x.1.1, (x.1.2.1, (r18.1, ((Go.IntKind.wrap Go.IntKind.i64 (x.1.2.2.2.1 + (1 : Int))), x.1.2.2.2.2)))), x.2))
noncomputable def cx_chans_work_push : Ctx := { tb := mkTb T2.tbl, fx := [(52, [], Spec.shp si_ring_Push so_ring_Push F_ring_Push)], sum := [], nt := 33, pin := 1, nr := true, ys := [] }
theorem F_chans_work_push_ok : Sound Try.prog 34 (Spec.shp si_chans_work_push so_chans_work_push F_chans_work_push) :=
  Sound.shp (C := cx_chans_work_push) (fn := Try.f34) (by kernel_rfl) (c := bodyOf Try.f34) (by kernel_rfl) (by decide) (ctxOK mixed tbl_ok rfl ⟨F_ring_Push_ok, trivial⟩ trivial) (SumOK.of trivial) (by kernel_rfl) si_chans_work_push so_chans_work_push rfl (by decide) (by decide) rfl (by decide) rfl F_chans_work_push (fun x => by kernel_rfl)
abbrev si_chans_work_pass : Shape := { sl := [(0, (.ptr 0 []))], bl := [.var (.hole (.pair (.pair (.int .i64) (.pair .bool (.pair (.pair (.int .i64) (.pair (.int .i64) (.pair (.slice (.int .i64)) (.int .i64)))) (.pair (.int .i64) (.pair (.int .i64) (.pair (.slice (.pair (.int .i64) (.pair (.int .i64) (.int .i64)))) (.slice (.pair (.int .i64) (.pair (.int .i64) (.int .i64)))))))))) (.int .i64)))], ts := [(.pair (.pair (.int .i64) (.pair .bool (.pair (.pair (.int .i64) (.pair (.int .i64) (.pair (.slice (.int .i64)) (.int .i64)))) (.pair (.int .i64) (.pair (.int .i64) (.pair (.slice (.pair (.int .i64) (.pair (.int .i64) (.int .i64)))) (.slice (.pair (.int .i64) (.pair (.int .i64) (.int .i64)))))))))) (.int .i64))], pin := 0 }
abbrev so_chans_work_pass : Shape := { sl := [(0, (.hole (.int .i64)))], bl := [.var (.hole (.pair (.pair (.int .i64) (.pair .bool (.pair (.pair (.int .i64) (.pair (.int .i64) (.pair (.slice (.int .i64)) (.int .i64)))) (.pair (.int .i64) (.pair (.int .i64) (.pair (.slice (.pair (.int .i64) (.pair (.int .i64) (.int .i64)))) (.slice (.pair (.int .i64) (.pair (.int .i64) (.int .i64)))))))))) (.int .i64)))], ts := [(.int .i64), (.pair (.pair (.int .i64) (.pair .bool (.pair (.pair (.int .i64) (.pair (.int .i64) (.pair (.slice (.int .i64)) (.int .i64)))) (.pair (.int .i64) (.pair (.int .i64) (.pair (.slice (.pair (.int .i64) (.pair (.int .i64) (.int .i64)))) (.slice (.pair (.int .i64) (.pair (.int .i64) (.int .i64)))))))))) (.int .i64))], pin := 1 }
noncomputable def F_chans_work_pass (x : (((Int × (Bool × ((Int × (Int × (List (Int) × Int))) × (Int × (Int × (List ((Int × (Int × Int))) × List ((Int × (Int × Int))))))))) × Int))) : Option (Int × ((Int × (Bool × ((Int × (Int × (List (Int) × Int))) × (Int × (Int × (List ((Int × (Int × Int))) × List ((Int × (Int × Int))))))))) × Int)) :=
  some (x.1.2.2.2.1, ((x.1.1, (x.1.2.1, (x.1.2.2.1, ((Go.IntKind.wrap Go.IntKind.i64 (x.1.2.2.2.1 + (1 : Int))), ((Go.IntKind.wrap Go.IntKind.i64 (x.1.2.2.2.2.1 + (1 : Int))), x.1.2.2.2.2.2))))), x.2))
noncomputable def cx_chans_work_pass : Ctx := { tb := mkTb T2.tbl, fx := [], sum := [], nt := 28, pin := 1, nr := true, ys := [] }
theorem F_chans_work_pass_ok : Sound Try.prog 33 (Spec.shp si_chans_work_pass so_chans_work_pass F_chans_work_pass) :=
  Sound.shp (C := cx_chans_work_pass) (fn := Try.f33) (by kernel_rfl) (c := bodyOf Try.f33) (by kernel_rfl) (by decide) (ctxOK mixed tbl_ok rfl trivial trivial) (SumOK.of trivial) (by kernel_rfl) si_chans_work_pass so_chans_work_pass rfl (by decide) (by decide) rfl (by decide) rfl F_chans_work_pass (fun x => by kernel_rfl)
abbrev si_waits_Push : Shape := { sl := [(0, (.hole (.slice (.pair (.int .i64) (.pair (.int .i64) (.int .i64)))))), (1, (.hole (.pair (.int .i64) (.pair (.int .i64) (.int .i64)))))], bl := [], ts := [(.slice (.pair (.int .i64) (.pair (.int .i64) (.int .i64)))), (.pair (.int .i64) (.pair (.int .i64) (.int .i64)))], pin := 0 }
abbrev so_waits_Push : Shape := { sl := [(0, (.hole (.slice (.pair (.int .i64) (.pair (.int .i64) (.int .i64)))))), (1, (.hole (.int .i64)))], bl := [], ts := [(.slice (.pair (.int .i64) (.pair (.int .i64) (.int .i64)))), (.int .i64)], pin := 0 }
noncomputable def F_waits_Push (x : (List ((Int × (Int × Int))) × (Int × (Int × Int)))) : Option (List ((Int × (Int × Int))) × Int) :=
  ((F_waits_Right x.1)).bind fun r17 =>
  bif (Bool.not r17) then
    some (([] : List (Int × (Int × Int))), (1 : Int))
  else
    ((F_waits_isWait x.2)).bind fun r18 =>
    bif (Bool.not r18) then
      some (([] : List (Int × (Int × Int))), (1 : Int))
    else
      ((F_waits_met x.1)).bind fun r19 =>
      bif (decide ((@Go.Proofs.Ytgnellpcphepjaa.VX.mlook ((Int × Int)) (Int) (Go.Proofs.Ytgnellpcphepjaa.VX.Ty.beq (.pair (.int .i64) (.int .i64))) (Go.Proofs.Ytgnellpcphepjaa.VX.Ty.zero (.int .i64)) (x.2.1, x.2.2.1) r19) > (0 : Int))) then
        some (([] : List (Int × (Int × Int))), (7 : Int))
      else
        bif ((((List.length x.1) : Nat) : Int) == (64 : Int)) then
          some (([] : List (Int × (Int × Int))), (5 : Int))
        else
          ((F_slices_Clone_api_Wait x.1)).bind fun r20 =>
          bif (Go.Proofs.Ytgnellpcphepjaa.VX.fits ((List.length r20) + (List.length (x.2 :: ([] : List (Int × (Int × Int))))))) then
            some ((r20 ++ (x.2 :: ([] : List (Int × (Int × Int))))), (0 : Int))
          else
            none
noncomputable def cx_waits_Push : Ctx := { tb := mkTb T2.tbl, fx := [(46, [], Spec.shp si_waits_Right so_waits_Right F_waits_Right), (53, [], Spec.shp si_waits_isWait so_waits_isWait F_waits_isWait), (54, [], Spec.shp si_waits_met so_waits_met F_waits_met), (55, [], Spec.shp si_slices_Clone_api_Wait so_slices_Clone_api_Wait F_slices_Clone_api_Wait)], sum := [], nt := 34, pin := 0, nr := true, ys := [] }
theorem F_waits_Push_ok : Sound Try.prog 35 (Spec.shp si_waits_Push so_waits_Push F_waits_Push) :=
  Sound.shp (C := cx_waits_Push) (fn := Try.f35) (by kernel_rfl) (c := bodyOf Try.f35) (by kernel_rfl) (by decide) (ctxOK mixed tbl_ok rfl ⟨F_waits_Right_ok, F_waits_isWait_ok, F_waits_met_ok, F_slices_Clone_api_Wait_ok, trivial⟩ trivial) (SumOK.of trivial) (by kernel_rfl) si_waits_Push so_waits_Push rfl (by decide) (by decide) rfl (by decide) rfl F_waits_Push (fun x => by kernel_rfl)
abbrev si_chans_Recv : Shape := { sl := [(0, (.hole (.pair (.int .i64) (.pair .bool (.pair (.pair (.int .i64) (.pair (.int .i64) (.pair (.slice (.int .i64)) (.int .i64)))) (.pair (.int .i64) (.pair (.int .i64) (.pair (.slice (.pair (.int .i64) (.pair (.int .i64) (.int .i64)))) (.slice (.pair (.int .i64) (.pair (.int .i64) (.int .i64)))))))))))), (1, (.hole (.pair (.int .i64) (.pair (.int .i64) (.int .i64)))))], bl := [], ts := [(.pair (.int .i64) (.pair .bool (.pair (.pair (.int .i64) (.pair (.int .i64) (.pair (.slice (.int .i64)) (.int .i64)))) (.pair (.int .i64) (.pair (.int .i64) (.pair (.slice (.pair (.int .i64) (.pair (.int .i64) (.int .i64)))) (.slice (.pair (.int .i64) (.pair (.int .i64) (.int .i64)))))))))), (.pair (.int .i64) (.pair (.int .i64) (.int .i64)))], pin := 0 }
abbrev so_chans_Recv : Shape := { sl := [(0, (.hole (.pair (.int .i64) (.pair .bool (.pair (.pair (.int .i64) (.pair (.int .i64) (.pair (.slice (.int .i64)) (.int .i64)))) (.pair (.int .i64) (.pair (.int .i64) (.pair (.slice (.pair (.int .i64) (.pair (.int .i64) (.int .i64)))) (.slice (.pair (.int .i64) (.pair (.int .i64) (.int .i64)))))))))))), (1, (.hole (.pair (.int .i64) (.pair (.int .i64) (.pair (.pair (.int .i64) (.pair (.int .i64) (.int .i64))) (.int .i64)))))), (2, (.hole (.int .i64)))], bl := [], ts := [(.pair (.int .i64) (.pair .bool (.pair (.pair (.int .i64) (.pair (.int .i64) (.pair (.slice (.int .i64)) (.int .i64)))) (.pair (.int .i64) (.pair (.int .i64) (.pair (.slice (.pair (.int .i64) (.pair (.int .i64) (.int .i64)))) (.slice (.pair (.int .i64) (.pair (.int .i64) (.int .i64)))))))))), (.pair (.int .i64) (.pair (.int .i64) (.pair (.pair (.int .i64) (.pair (.int .i64) (.int .i64))) (.int .i64)))), (.int .i64)], pin := 0 }
noncomputable def F_chans_Recv (x : ((Int × (Bool × ((Int × (Int × (List (Int) × Int))) × (Int × (Int × (List ((Int × (Int × Int))) × List ((Int × (Int × Int))))))))) × (Int × (Int × Int)))) : Option ((Int × (Bool × ((Int × (Int × (List (Int) × Int))) × (Int × (Int × (List ((Int × (Int × Int))) × List ((Int × (Int × Int))))))))) × (Int × (Int × ((Int × (Int × Int)) × Int))) × Int) :=
  ((F_chans_Right x.1)).bind fun r11 =>
  bif (Bool.not r11) then
    some (((0 : Int), (false, (((0 : Int), ((0 : Int), (([] : List Int), (0 : Int)))), ((0 : Int), ((0 : Int), (([] : List (Int × (Int × Int))), ([] : List (Int × (Int × Int))))))))), (((0 : Int), ((0 : Int), (((0 : Int), ((0 : Int), (0 : Int))), (0 : Int)))), (1 : Int)))
  else
    ((F_chans_isWait x.2)).bind fun r12 =>
    bif (Bool.not r12) then
      some (((0 : Int), (false, (((0 : Int), ((0 : Int), (([] : List Int), (0 : Int)))), ((0 : Int), ((0 : Int), (([] : List (Int × (Int × Int))), ([] : List (Int × (Int × Int))))))))), (((0 : Int), ((0 : Int), (((0 : Int), ((0 : Int), (0 : Int))), (0 : Int)))), (1 : Int)))
    else
      ((F_chans_work_other (x.1.2.2.2.2.2.1, (x.1, x.2.1)))).bind fun r13 =>
      bif (r13.1.1 != (Int.negSucc 0)) then
        bif (r13.2.1.2.2.2.1 == (1048576 : Int)) then
          some (((0 : Int), (false, (((0 : Int), ((0 : Int), (([] : List Int), (0 : Int)))), ((0 : Int), ((0 : Int), (([] : List (Int × (Int × Int))), ([] : List (Int × (Int × Int))))))))), (((0 : Int), ((0 : Int), (((0 : Int), ((0 : Int), (0 : Int))), (0 : Int)))), (5 : Int)))
        else
          ((F_chans_work_leave (r13.1.1, r13.2))).bind fun r14 =>
          ((F_chans_work_isNil r14)).bind fun r15 =>
          bif r15.1 then
            some (x.1, (((0 : Int), ((0 : Int), (r13.1, (0 : Int)))), (0 : Int)))
          else
            bif (decide (r15.2.1.2.2.1.2.2.2 > (0 : Int))) then
              ((F_chans_work_pop r15.2)).bind fun r16 =>
              bif (r13.1.1 != (Int.negSucc 0)) then
                ((F_chans_work_push r16.2)).bind fun r17 =>
                some (r17.2.1, (((1 : Int), (r16.1, (r13.1, r17.1))), (0 : Int)))
              else
                some (r16.2.1, (((1 : Int), (r16.1, (r13.1, (0 : Int)))), (0 : Int)))
            else
              bif (r13.1.1 != (Int.negSucc 0)) then
                ((F_chans_work_pass r15.2)).bind fun r16 =>
                some (r16.2.1, (((1 : Int), (r16.1, (r13.1, r16.1))), (0 : Int)))
              else
                bif r15.2.1.2.1 then
                  some (x.1, (((2 : Int), ((0 : Int), (r13.1, (0 : Int)))), (0 : Int)))
                else
                  ((F_waits_Push (r15.2.1.2.2.2.2.2.2, x.2))).bind fun r16 =>
                  bif (r16.2 != (0 : Int)) then
                    some (((0 : Int), (false, (((0 : Int), ((0 : Int), (([] : List Int), (0 : Int)))), ((0 : Int), ((0 : Int), (([] : List (Int × (Int × Int))), ([] : List (Int × (Int × Int))))))))), (((0 : Int), ((0 : Int), (((0 : Int), ((0 : Int), (0 : Int))), (0 : Int)))), r16.2))
                  else
                    some ((r15.2.1.1, (r15.2.1.2.1, (r15.2.1.2.2.1, (r15.2.1.2.2.2.1, (r15.2.1.2.2.2.2.1, (r15.2.1.2.2.2.2.2.1, r16.1)))))), (((0 : Int), ((0 : Int), (r13.1, (0 : Int)))), (0 : Int)))
      else
        ((F_chans_work_isNil r13.2)).bind fun r14 =>
        bif r14.1 then
          some (x.1, (((0 : Int), ((0 : Int), (r13.1, (0 : Int)))), (0 : Int)))
        else
          bif (decide (r14.2.1.2.2.1.2.2.2 > (0 : Int))) then
            ((F_chans_work_pop r14.2)).bind fun r15 =>
            bif (r13.1.1 != (Int.negSucc 0)) then
              ((F_chans_work_push r15.2)).bind fun r16 =>
              some (r16.2.1, (((1 : Int), (r15.1, (r13.1, r16.1))), (0 : Int)))
            else
              some (r15.2.1, (((1 : Int), (r15.1, (r13.1, (0 : Int)))), (0 : Int)))
          else
            bif (r13.1.1 != (Int.negSucc 0)) then
              ((F_chans_work_pass r14.2)).bind fun r15 =>
              some (r15.2.1, (((1 : Int), (r15.1, (r13.1, r15.1))), (0 : Int)))
            else
              bif r14.2.1.2.1 then
                some (x.1, (((2 : Int), ((0 : Int), (r13.1, (0 : Int)))), (0 : Int)))
              else
                ((F_waits_Push (r14.2.1.2.2.2.2.2.2, x.2))).bind fun r15 =>
                bif (r15.2 != (0 : Int)) then
                  some (((0 : Int), (false, (((0 : Int), ((0 : Int), (([] : List Int), (0 : Int)))), ((0 : Int), ((0 : Int), (([] : List (Int × (Int × Int))), ([] : List (Int × (Int × Int))))))))), (((0 : Int), ((0 : Int), (((0 : Int), ((0 : Int), (0 : Int))), (0 : Int)))), r15.2))
                else
                  some ((r14.2.1.1, (r14.2.1.2.1, (r14.2.1.2.2.1, (r14.2.1.2.2.2.1, (r14.2.1.2.2.2.2.1, (r14.2.1.2.2.2.2.2.1, r15.1)))))), (((0 : Int), ((0 : Int), (r13.1, (0 : Int)))), (0 : Int)))
noncomputable def cx_chans_Recv : Ctx := { tb := mkTb T2.tbl, fx := [(20, [], Spec.shp si_chans_Right so_chans_Right F_chans_Right), (28, [], Spec.shp si_chans_isWait so_chans_isWait F_chans_isWait), (29, [], Spec.shp si_chans_work_other so_chans_work_other F_chans_work_other), (32, [], Spec.shp si_chans_work_leave so_chans_work_leave F_chans_work_leave), (30, [], Spec.shp si_chans_work_isNil so_chans_work_isNil F_chans_work_isNil), (36, [], Spec.shp si_chans_work_pop so_chans_work_pop F_chans_work_pop), (34, [], Spec.shp si_chans_work_push so_chans_work_push F_chans_work_push), (33, [], Spec.shp si_chans_work_pass so_chans_work_pass F_chans_work_pass), (35, [], Spec.shp si_waits_Push so_waits_Push F_waits_Push)], sum := [], nt := 130, pin := 0, nr := true, ys := [] }
theorem F_chans_Recv_ok : Sound Try.prog 9 (Spec.shp si_chans_Recv so_chans_Recv F_chans_Recv) :=
  Sound.shp (C := cx_chans_Recv) (fn := Try.f9) (by kernel_rfl) (c := bodyOf Try.f9) (by kernel_rfl) (by decide) (ctxOK mixed tbl_ok rfl ⟨F_chans_Right_ok, F_chans_isWait_ok, F_chans_work_other_ok, F_chans_work_leave_ok, F_chans_work_isNil_ok, F_chans_work_pop_ok, F_chans_work_push_ok, F_chans_work_pass_ok, F_waits_Push_ok, trivial⟩ trivial) (SumOK.of trivial) (by kernel_rfl) si_chans_Recv so_chans_Recv rfl (by decide) (by decide) rfl (by decide) rfl F_chans_Recv (fun x => by kernel_rfl)
abbrev si_chans_Send : Shape := { sl := [(0, (.hole (.pair (.int .i64) (.pair .bool (.pair (.pair (.int .i64) (.pair (.int .i64) (.pair (.slice (.int .i64)) (.int .i64)))) (.pair (.int .i64) (.pair (.int .i64) (.pair (.slice (.pair (.int .i64) (.pair (.int .i64) (.int .i64)))) (.slice (.pair (.int .i64) (.pair (.int .i64) (.int .i64)))))))))))), (1, (.hole (.pair (.int .i64) (.pair (.int .i64) (.int .i64)))))], bl := [], ts := [(.pair (.int .i64) (.pair .bool (.pair (.pair (.int .i64) (.pair (.int .i64) (.pair (.slice (.int .i64)) (.int .i64)))) (.pair (.int .i64) (.pair (.int .i64) (.pair (.slice (.pair (.int .i64) (.pair (.int .i64) (.int .i64)))) (.slice (.pair (.int .i64) (.pair (.int .i64) (.int .i64)))))))))), (.pair (.int .i64) (.pair (.int .i64) (.int .i64)))], pin := 0 }
abbrev so_chans_Send : Shape := { sl := [(0, (.hole (.pair (.int .i64) (.pair .bool (.pair (.pair (.int .i64) (.pair (.int .i64) (.pair (.slice (.int .i64)) (.int .i64)))) (.pair (.int .i64) (.pair (.int .i64) (.pair (.slice (.pair (.int .i64) (.pair (.int .i64) (.int .i64)))) (.slice (.pair (.int .i64) (.pair (.int .i64) (.int .i64)))))))))))), (1, (.hole (.pair (.int .i64) (.pair (.int .i64) (.pair (.pair (.int .i64) (.pair (.int .i64) (.int .i64))) (.int .i64)))))), (2, (.hole (.int .i64)))], bl := [], ts := [(.pair (.int .i64) (.pair .bool (.pair (.pair (.int .i64) (.pair (.int .i64) (.pair (.slice (.int .i64)) (.int .i64)))) (.pair (.int .i64) (.pair (.int .i64) (.pair (.slice (.pair (.int .i64) (.pair (.int .i64) (.int .i64)))) (.slice (.pair (.int .i64) (.pair (.int .i64) (.int .i64)))))))))), (.pair (.int .i64) (.pair (.int .i64) (.pair (.pair (.int .i64) (.pair (.int .i64) (.int .i64))) (.int .i64)))), (.int .i64)], pin := 0 }
noncomputable def F_chans_Send (x : ((Int × (Bool × ((Int × (Int × (List (Int) × Int))) × (Int × (Int × (List ((Int × (Int × Int))) × List ((Int × (Int × Int))))))))) × (Int × (Int × Int)))) : Option ((Int × (Bool × ((Int × (Int × (List (Int) × Int))) × (Int × (Int × (List ((Int × (Int × Int))) × List ((Int × (Int × Int))))))))) × (Int × (Int × ((Int × (Int × Int)) × Int))) × Int) :=
  ((F_chans_Right x.1)).bind fun r12 =>
  bif (Bool.not r12) then
    some (((0 : Int), (false, (((0 : Int), ((0 : Int), (([] : List Int), (0 : Int)))), ((0 : Int), ((0 : Int), (([] : List (Int × (Int × Int))), ([] : List (Int × (Int × Int))))))))), (((0 : Int), ((0 : Int), (((0 : Int), ((0 : Int), (0 : Int))), (0 : Int)))), (1 : Int)))
  else
    ((F_chans_isWait x.2)).bind fun r13 =>
    bif (Bool.not r13) then
      some (((0 : Int), (false, (((0 : Int), ((0 : Int), (([] : List Int), (0 : Int)))), ((0 : Int), ((0 : Int), (([] : List (Int × (Int × Int))), ([] : List (Int × (Int × Int))))))))), (((0 : Int), ((0 : Int), (((0 : Int), ((0 : Int), (0 : Int))), (0 : Int)))), (1 : Int)))
    else
      ((F_chans_work_other (x.1.2.2.2.2.2.2, (x.1, x.2.1)))).bind fun r14 =>
      ((F_chans_work_isNil r14.2)).bind fun r15 =>
      bif r15.1 then
        some (x.1, (((0 : Int), ((0 : Int), (((Int.negSucc 0), ((0 : Int), (0 : Int))), (0 : Int)))), (0 : Int)))
      else
        bif r15.2.1.2.1 then
          some (x.1, (((3 : Int), ((0 : Int), (((Int.negSucc 0), ((0 : Int), (0 : Int))), (0 : Int)))), (0 : Int)))
        else
          bif (r14.1.1 != (Int.negSucc 0)) then
            bif (r15.2.1.2.2.2.1 == (1048576 : Int)) then
              some (((0 : Int), (false, (((0 : Int), ((0 : Int), (([] : List Int), (0 : Int)))), ((0 : Int), ((0 : Int), (([] : List (Int × (Int × Int))), ([] : List (Int × (Int × Int))))))))), (((0 : Int), ((0 : Int), (((0 : Int), ((0 : Int), (0 : Int))), (0 : Int)))), (5 : Int)))
            else
              bif (r14.1.1 != (Int.negSucc 0)) then
                ((F_chans_work_leave (r14.1.1, r15.2))).bind fun r16 =>
                ((F_chans_work_pass r16)).bind fun r17 =>
                some (r17.2.1, (((1 : Int), (r17.1, (r14.1, r17.1))), (0 : Int)))
              else
                ((F_chans_work_full r15.2)).bind fun r16 =>
                bif (Bool.not r16.1) then
                  ((F_chans_work_push r16.2)).bind fun r17 =>
                  some (r17.2.1, (((1 : Int), (r17.1, (r14.1, (0 : Int)))), (0 : Int)))
                else
                  ((F_waits_Push (r16.2.1.2.2.2.2.2.1, x.2))).bind fun r17 =>
                  bif (r17.2 != (0 : Int)) then
                    some (((0 : Int), (false, (((0 : Int), ((0 : Int), (([] : List Int), (0 : Int)))), ((0 : Int), ((0 : Int), (([] : List (Int × (Int × Int))), ([] : List (Int × (Int × Int))))))))), (((0 : Int), ((0 : Int), (((0 : Int), ((0 : Int), (0 : Int))), (0 : Int)))), r17.2))
                  else
                    some ((r16.2.1.1, (r16.2.1.2.1, (r16.2.1.2.2.1, (r16.2.1.2.2.2.1, (r16.2.1.2.2.2.2.1, (r17.1, r16.2.1.2.2.2.2.2.2)))))), (((0 : Int), ((0 : Int), (r14.1, (0 : Int)))), (0 : Int)))
          else
            ((F_chans_work_full r15.2)).bind fun r16 =>
            bif (Bool.not r16.1) then
              bif (r16.2.1.2.2.2.1 == (1048576 : Int)) then
                some (((0 : Int), (false, (((0 : Int), ((0 : Int), (([] : List Int), (0 : Int)))), ((0 : Int), ((0 : Int), (([] : List (Int × (Int × Int))), ([] : List (Int × (Int × Int))))))))), (((0 : Int), ((0 : Int), (((0 : Int), ((0 : Int), (0 : Int))), (0 : Int)))), (5 : Int)))
              else
                bif (r14.1.1 != (Int.negSucc 0)) then
                  ((F_chans_work_leave (r14.1.1, r16.2))).bind fun r17 =>
                  ((F_chans_work_pass r17)).bind fun r18 =>
                  some (r18.2.1, (((1 : Int), (r18.1, (r14.1, r18.1))), (0 : Int)))
                else
                  ((F_chans_work_full r16.2)).bind fun r17 =>
                  bif (Bool.not r17.1) then
                    ((F_chans_work_push r17.2)).bind fun r18 =>
                    some (r18.2.1, (((1 : Int), (r18.1, (r14.1, (0 : Int)))), (0 : Int)))
                  else
                    ((F_waits_Push (r17.2.1.2.2.2.2.2.1, x.2))).bind fun r18 =>
                    bif (r18.2 != (0 : Int)) then
                      some (((0 : Int), (false, (((0 : Int), ((0 : Int), (([] : List Int), (0 : Int)))), ((0 : Int), ((0 : Int), (([] : List (Int × (Int × Int))), ([] : List (Int × (Int × Int))))))))), (((0 : Int), ((0 : Int), (((0 : Int), ((0 : Int), (0 : Int))), (0 : Int)))), r18.2))
                    else
                      some ((r17.2.1.1, (r17.2.1.2.1, (r17.2.1.2.2.1, (r17.2.1.2.2.2.1, (r17.2.1.2.2.2.2.1, (r18.1, r17.2.1.2.2.2.2.2.2)))))), (((0 : Int), ((0 : Int), (r14.1, (0 : Int)))), (0 : Int)))
            else
              bif (r14.1.1 != (Int.negSucc 0)) then
                ((F_chans_work_leave (r14.1.1, r16.2))).bind fun r17 =>
                ((F_chans_work_pass r17)).bind fun r18 =>
                some (r18.2.1, (((1 : Int), (r18.1, (r14.1, r18.1))), (0 : Int)))
              else
                ((F_chans_work_full r16.2)).bind fun r17 =>
                bif (Bool.not r17.1) then
                  ((F_chans_work_push r17.2)).bind fun r18 =>
                  some (r18.2.1, (((1 : Int), (r18.1, (r14.1, (0 : Int)))), (0 : Int)))
                else
                  ((F_waits_Push (r17.2.1.2.2.2.2.2.1, x.2))).bind fun r18 =>
                  bif (r18.2 != (0 : Int)) then
                    some (((0 : Int), (false, (((0 : Int), ((0 : Int), (([] : List Int), (0 : Int)))), ((0 : Int), ((0 : Int), (([] : List (Int × (Int × Int))), ([] : List (Int × (Int × Int))))))))), (((0 : Int), ((0 : Int), (((0 : Int), ((0 : Int), (0 : Int))), (0 : Int)))), r18.2))
                  else
                    some ((r17.2.1.1, (r17.2.1.2.1, (r17.2.1.2.2.1, (r17.2.1.2.2.2.1, (r17.2.1.2.2.2.2.1, (r18.1, r17.2.1.2.2.2.2.2.2)))))), (((0 : Int), ((0 : Int), (r14.1, (0 : Int)))), (0 : Int)))
noncomputable def cx_chans_Send : Ctx := { tb := mkTb T2.tbl, fx := [(20, [], Spec.shp si_chans_Right so_chans_Right F_chans_Right), (28, [], Spec.shp si_chans_isWait so_chans_isWait F_chans_isWait), (29, [], Spec.shp si_chans_work_other so_chans_work_other F_chans_work_other), (30, [], Spec.shp si_chans_work_isNil so_chans_work_isNil F_chans_work_isNil), (32, [], Spec.shp si_chans_work_leave so_chans_work_leave F_chans_work_leave), (33, [], Spec.shp si_chans_work_pass so_chans_work_pass F_chans_work_pass), (31, [], Spec.shp si_chans_work_full so_chans_work_full F_chans_work_full), (34, [], Spec.shp si_chans_work_push so_chans_work_push F_chans_work_push), (35, [], Spec.shp si_waits_Push so_waits_Push F_waits_Push)], sum := [], nt := 128, pin := 0, nr := true, ys := [] }
theorem F_chans_Send_ok : Sound Try.prog 8 (Spec.shp si_chans_Send so_chans_Send F_chans_Send) :=
  Sound.shp (C := cx_chans_Send) (fn := Try.f8) (by kernel_rfl) (c := bodyOf Try.f8) (by kernel_rfl) (by decide) (ctxOK mixed tbl_ok rfl ⟨F_chans_Right_ok, F_chans_isWait_ok, F_chans_work_other_ok, F_chans_work_isNil_ok, F_chans_work_leave_ok, F_chans_work_pass_ok, F_chans_work_full_ok, F_chans_work_push_ok, F_waits_Push_ok, trivial⟩ trivial) (SumOK.of trivial) (by kernel_rfl) si_chans_Send so_chans_Send rfl (by decide) (by decide) rfl (by decide) rfl F_chans_Send (fun x => by kernel_rfl)
abbrev si_plaitlaw09_alive : Shape := { sl := [], bl := [], ts := [], pin := 0 }
abbrev so_plaitlaw09_alive : Shape := { sl := [(0, (.hole .bool))], bl := [], ts := [.bool], pin := 0 }
noncomputable def F_plaitlaw09_alive (x : Unit) : Option (Bool) :=
  ((F_chans_New (0 : Int))).bind fun r9 =>
  ((F_chans_Recv (r9.1, ((2 : Int), ((0 : Int), (0 : Int)))))).bind fun r10 =>
  ((F_chans_Send (r10.1, ((1 : Int), ((0 : Int), (0 : Int)))))).bind fun r11 =>
  bif (r9.2 == (0 : Int)) then
    bif (r10.2.2 == (0 : Int)) then
      bif (r11.2.2 == (0 : Int)) then
        bif (r10.2.1.1 == (0 : Int)) then
          bif (r11.2.1.1 == (1 : Int)) then
            bif (r11.2.1.2.2.1.1 == (2 : Int)) then
              some (r11.1.2.2.2.1 == (1 : Int))
            else
              some false
          else
            some false
        else
          some false
      else
        some false
    else
      some false
  else
    some false
noncomputable def cx_plaitlaw09_alive : Ctx := { tb := mkTb T2.tbl, fx := [(22, [], Spec.shp si_chans_New so_chans_New F_chans_New), (9, [], Spec.shp si_chans_Recv so_chans_Recv F_chans_Recv), (8, [], Spec.shp si_chans_Send so_chans_Send F_chans_Send)], sum := [], nt := 56, pin := 0, nr := true, ys := [] }
theorem F_plaitlaw09_alive_ok : Sound Try.prog 12 (Spec.shp si_plaitlaw09_alive so_plaitlaw09_alive F_plaitlaw09_alive) :=
  Sound.shp (C := cx_plaitlaw09_alive) (fn := Try.f12) (by kernel_rfl) (c := bodyOf Try.f12) (by kernel_rfl) (by decide) (ctxOK mixed tbl_ok rfl ⟨F_chans_New_ok, F_chans_Recv_ok, F_chans_Send_ok, trivial⟩ trivial) (SumOK.of trivial) (by kernel_rfl) si_plaitlaw09_alive so_plaitlaw09_alive rfl (by decide) (by decide) rfl (by decide) rfl F_plaitlaw09_alive (fun x => by kernel_rfl)
abbrev si_plaitlaw09_empty : Shape := { sl := [(0, (.hole (.pair (.int .i64) (.pair .bool (.pair (.pair (.int .i64) (.pair (.int .i64) (.pair (.slice (.int .i64)) (.int .i64)))) (.pair (.int .i64) (.pair (.int .i64) (.pair (.slice (.pair (.int .i64) (.pair (.int .i64) (.int .i64)))) (.slice (.pair (.int .i64) (.pair (.int .i64) (.int .i64))))))))))))], bl := [], ts := [(.pair (.int .i64) (.pair .bool (.pair (.pair (.int .i64) (.pair (.int .i64) (.pair (.slice (.int .i64)) (.int .i64)))) (.pair (.int .i64) (.pair (.int .i64) (.pair (.slice (.pair (.int .i64) (.pair (.int .i64) (.int .i64)))) (.slice (.pair (.int .i64) (.pair (.int .i64) (.int .i64))))))))))], pin := 0 }
abbrev so_plaitlaw09_empty : Shape := { sl := [(0, (.hole .bool))], bl := [], ts := [.bool], pin := 0 }
noncomputable def F_plaitlaw09_empty (x : ((Int × (Bool × ((Int × (Int × (List (Int) × Int))) × (Int × (Int × (List ((Int × (Int × Int))) × List ((Int × (Int × Int))))))))))) : Option (Bool) :=
  bif (x.1 == (0 : Int)) then
    bif (Bool.not x.2.1) then
      bif (x.2.2.2.1 == (0 : Int)) then
        bif (x.2.2.2.2.1 == (0 : Int)) then
          bif ((((List.length x.2.2.2.2.2.1) : Nat) : Int) == (0 : Int)) then
            bif ((((List.length x.2.2.2.2.2.2) : Nat) : Int) == (0 : Int)) then
              bif (x.2.2.1.1 == (0 : Int)) then
                bif (x.2.2.1.2.1 == (0 : Int)) then
                  bif (x.2.2.1.2.2.2 == (0 : Int)) then
                    some ((((List.length x.2.2.1.2.2.1) : Nat) : Int) == (0 : Int))
                  else
                    some false
                else
                  some false
              else
                some false
            else
              some false
          else
            some false
        else
          some false
      else
        some false
    else
      some false
  else
    some false
noncomputable def cx_plaitlaw09_empty : Ctx := { tb := mkTb T2.tbl, fx := [], sum := [], nt := 58, pin := 0, nr := true, ys := [] }
theorem F_plaitlaw09_empty_ok : Sound Try.prog 13 (Spec.shp si_plaitlaw09_empty so_plaitlaw09_empty F_plaitlaw09_empty) :=
  Sound.shp (C := cx_plaitlaw09_empty) (fn := Try.f13) (by kernel_rfl) (c := bodyOf Try.f13) (by kernel_rfl) (by decide) (ctxOK mixed tbl_ok rfl trivial trivial) (SumOK.of trivial) (by kernel_rfl) si_plaitlaw09_empty so_plaitlaw09_empty rfl (by decide) (by decide) rfl (by decide) rfl F_plaitlaw09_empty (fun x => by kernel_rfl)
abbrev si_plaitref09_Close : Shape := { sl := [(0, (.hole (.pair (.int .i64) (.pair .bool (.pair (.pair (.int .i64) (.pair (.int .i64) (.pair (.slice (.int .i64)) (.int .i64)))) (.pair (.int .i64) (.pair (.int .i64) (.pair (.slice (.pair (.int .i64) (.pair (.int .i64) (.int .i64)))) (.slice (.pair (.int .i64) (.pair (.int .i64) (.int .i64))))))))))))], bl := [], ts := [(.pair (.int .i64) (.pair .bool (.pair (.pair (.int .i64) (.pair (.int .i64) (.pair (.slice (.int .i64)) (.int .i64)))) (.pair (.int .i64) (.pair (.int .i64) (.pair (.slice (.pair (.int .i64) (.pair (.int .i64) (.int .i64)))) (.slice (.pair (.int .i64) (.pair (.int .i64) (.int .i64))))))))))], pin := 0 }
abbrev so_plaitref09_Close : Shape := { sl := [(0, (.hole (.pair (.int .i64) (.pair .bool (.pair (.pair (.int .i64) (.pair (.int .i64) (.pair (.slice (.int .i64)) (.int .i64)))) (.pair (.int .i64) (.pair (.int .i64) (.pair (.slice (.pair (.int .i64) (.pair (.int .i64) (.int .i64)))) (.slice (.pair (.int .i64) (.pair (.int .i64) (.int .i64)))))))))))), (1, (.hole (.slice (.pair (.int .i64) (.pair (.int .i64) (.int .i64)))))), (2, (.hole .bool))], bl := [], ts := [(.pair (.int .i64) (.pair .bool (.pair (.pair (.int .i64) (.pair (.int .i64) (.pair (.slice (.int .i64)) (.int .i64)))) (.pair (.int .i64) (.pair (.int .i64) (.pair (.slice (.pair (.int .i64) (.pair (.int .i64) (.int .i64)))) (.slice (.pair (.int .i64) (.pair (.int .i64) (.int .i64)))))))))), (.slice (.pair (.int .i64) (.pair (.int .i64) (.int .i64)))), .bool], pin := 0 }
noncomputable def F_plaitref09_Close (x : ((Int × (Bool × ((Int × (Int × (List (Int) × Int))) × (Int × (Int × (List ((Int × (Int × Int))) × List ((Int × (Int × Int))))))))))) : Option ((Int × (Bool × ((Int × (Int × (List (Int) × Int))) × (Int × (Int × (List ((Int × (Int × Int))) × List ((Int × (Int × Int))))))))) × List ((Int × (Int × Int))) × Bool) :=
  bif (x.1 == (Int.negSucc 0)) then
    some (x, (([] : List (Int × (Int × Int))), true))
  else
    bif x.2.1 then
      some (x, (([] : List (Int × (Int × Int))), true))
    else
      bif (decide ((((List.length x.2.2.2.2.2.1) : Nat) : Int) > (0 : Int))) then
        some (x, (([] : List (Int × (Int × Int))), true))
      else
        some ((x.1, (true, (x.2.2.1, (x.2.2.2.1, (x.2.2.2.2.1, (x.2.2.2.2.2.1, ([] : List (Int × (Int × Int))))))))), (x.2.2.2.2.2.2, false))
noncomputable def cx_plaitref09_Close : Ctx := { tb := mkTb T2.tbl, fx := [], sum := [], nt := 26, pin := 0, nr := true, ys := [] }
theorem F_plaitref09_Close_ok : Sound Try.prog 24 (Spec.shp si_plaitref09_Close so_plaitref09_Close F_plaitref09_Close) :=
  Sound.shp (C := cx_plaitref09_Close) (fn := Try.f24) (by kernel_rfl) (c := bodyOf Try.f24) (by kernel_rfl) (by decide) (ctxOK mixed tbl_ok rfl trivial trivial) (SumOK.of trivial) (by kernel_rfl) si_plaitref09_Close so_plaitref09_Close rfl (by decide) (by decide) rfl (by decide) rfl F_plaitref09_Close (fun x => by kernel_rfl)
abbrev sh_plaitref05_Same_5 : Shape := { sl := [(0, (.hole (.slice (.pair (.int .i64) (.pair (.int .i64) (.int .i64)))))), (1, (.hole (.slice (.pair (.int .i64) (.pair (.int .i64) (.int .i64)))))), (12, (.hole (.int .i64))), (13, (.hole (.int .i64)))], bl := [], ts := [(.slice (.pair (.int .i64) (.pair (.int .i64) (.int .i64)))), (.slice (.pair (.int .i64) (.pair (.int .i64) (.int .i64)))), (.int .i64), (.int .i64)], pin := 0 }
abbrev es_plaitref05_Same_5 : List (ETag × Shape) := [(.ret, { sl := [(4, (.hole .bool))], bl := [], ts := [.bool], pin := 0 }), (.exit 0, { sl := [], bl := [], ts := [], pin := 0 })]
noncomputable def L_plaitref05_Same_5 (x : (List ((Int × (Int × Int))) × List ((Int × (Int × Int))) × Int × Int)) : Option ((List ((Int × (Int × Int))) × List ((Int × (Int × Int))) × Int × Int) ⊕ ((Bool) ⊕ Unit)) :=
  bif (decide (x.2.2.2 < x.2.2.1)) then
    bif (Go.Proofs.Ytgnellpcphepjaa.VX.inb x.2.2.2 (List.length x.1)) then
      bif (Go.Proofs.Ytgnellpcphepjaa.VX.inb x.2.2.2 (List.length x.2.1)) then
        bif (Bool.not (((Go.Proofs.Ytgnellpcphepjaa.VX.getAt ((0 : Int), ((0 : Int), (0 : Int))) x.1 (Go.Proofs.Ytgnellpcphepjaa.VX.toN x.2.2.2)).1 == (Go.Proofs.Ytgnellpcphepjaa.VX.getAt ((0 : Int), ((0 : Int), (0 : Int))) x.2.1 (Go.Proofs.Ytgnellpcphepjaa.VX.toN x.2.2.2)).1) && (((Go.Proofs.Ytgnellpcphepjaa.VX.getAt ((0 : Int), ((0 : Int), (0 : Int))) x.1 (Go.Proofs.Ytgnellpcphepjaa.VX.toN x.2.2.2)).2.1 == (Go.Proofs.Ytgnellpcphepjaa.VX.getAt ((0 : Int), ((0 : Int), (0 : Int))) x.2.1 (Go.Proofs.Ytgnellpcphepjaa.VX.toN x.2.2.2)).2.1) && ((Go.Proofs.Ytgnellpcphepjaa.VX.getAt ((0 : Int), ((0 : Int), (0 : Int))) x.1 (Go.Proofs.Ytgnellpcphepjaa.VX.toN x.2.2.2)).2.2 == (Go.Proofs.Ytgnellpcphepjaa.VX.getAt ((0 : Int), ((0 : Int), (0 : Int))) x.2.1 (Go.Proofs.Ytgnellpcphepjaa.VX.toN x.2.2.2)).2.2)))) then
          some (.inr (.inl false))
        else
          some (.inl (x.1, (x.2.1, (x.2.2.1, (Go.IntKind.wrap Go.IntKind.i64 (x.2.2.2 + (1 : Int)))))))
      else
        none
    else
      none
  else
    some (.inr (.inr ()))
noncomputable def cx_plaitref05_Same_5 : Ctx := { tb := mkTb T2.tbl, fx := [], sum := [], nt := 26, pin := 0, nr := true, ys := [] }
theorem L_plaitref05_Same_5_ok : CSound Try.prog ⟨26, 0, true⟩ (.loop (loopOf 5 Try.f25)) (pieceSpec sh_plaitref05_Same_5 es_plaitref05_Same_5 (loop L_plaitref05_Same_5)) :=
  loop_sound (C := cx_plaitref05_Same_5) (ctxOK mixed tbl_ok rfl trivial trivial) (SumOK.of trivial) sh_plaitref05_Same_5 es_plaitref05_Same_5 rfl rfl L_plaitref05_Same_5 (fun x => by kernel_rfl)
abbrev si_plaitref05_Same : Shape := { sl := [(0, (.hole (.slice (.pair (.int .i64) (.pair (.int .i64) (.int .i64)))))), (1, (.hole (.slice (.pair (.int .i64) (.pair (.int .i64) (.int .i64))))))], bl := [], ts := [(.slice (.pair (.int .i64) (.pair (.int .i64) (.int .i64)))), (.slice (.pair (.int .i64) (.pair (.int .i64) (.int .i64))))], pin := 0 }
abbrev so_plaitref05_Same : Shape := { sl := [(0, (.hole .bool))], bl := [], ts := [.bool], pin := 0 }
noncomputable def F_plaitref05_Same (x : (List ((Int × (Int × Int))) × List ((Int × (Int × Int))))) : Option (Bool) :=
  bif ((((List.length x.1) : Nat) : Int) != (((List.length x.2) : Nat) : Int)) then
    some false
  else
    ((loop L_plaitref05_Same_5 (x.1, (x.2, ((((List.length x.1) : Nat) : Int), (0 : Int)))))).bind fun r12 =>
    match r12 with
    | .inl y13 =>
      some y13
    | .inr y13 =>
      some true
noncomputable def cx_plaitref05_Same : Ctx := { tb := mkTb T2.tbl, fx := [], sum := [(0, 5, pieceSpec sh_plaitref05_Same_5 es_plaitref05_Same_5 (loop L_plaitref05_Same_5))], nt := 26, pin := 0, nr := true, ys := [] }
theorem F_plaitref05_Same_ok : Sound Try.prog 25 (Spec.shp si_plaitref05_Same so_plaitref05_Same F_plaitref05_Same) :=
  Sound.shp (C := cx_plaitref05_Same) (fn := Try.f25) (by kernel_rfl) (c := bodyOf Try.f25) (by kernel_rfl) (by decide) (ctxOK mixed tbl_ok rfl trivial trivial) (SumOK.of ⟨(pieces_one (d := .loop (loopOf 5 Try.f25)) (by kernel_rfl) L_plaitref05_Same_5_ok), trivial⟩) (by kernel_rfl) si_plaitref05_Same so_plaitref05_Same rfl (by decide) (by decide) rfl (by decide) rfl F_plaitref05_Same (fun x => by kernel_rfl)
abbrev sh_plaitref04_Is_5 : Shape := { sl := [(2, (.hole (.slice (.int .i64)))), (26, (.hole (.slice (.int .i64)))), (27, (.hole (.int .i64))), (28, (.hole (.int .i64)))], bl := [], ts := [(.slice (.int .i64)), (.slice (.int .i64)), (.int .i64), (.int .i64)], pin := 0 }
abbrev es_plaitref04_Is_5 : List (ETag × Shape) := [(.ret, { sl := [(6, (.hole .bool))], bl := [], ts := [.bool], pin := 0 }), (.exit 0, { sl := [], bl := [], ts := [], pin := 0 })]
noncomputable def L_plaitref04_Is_5 (x : (List (Int) × List (Int) × Int × Int)) : Option ((List (Int) × List (Int) × Int × Int) ⊕ ((Bool) ⊕ Unit)) :=
  bif (decide (x.2.2.2 < x.2.2.1)) then
    bif (Go.Proofs.Ytgnellpcphepjaa.VX.inb x.2.2.2 (List.length x.2.1)) then
      bif (Go.Proofs.Ytgnellpcphepjaa.VX.inb x.2.2.2 (List.length x.1)) then
        bif ((Go.Proofs.Ytgnellpcphepjaa.VX.getAt (0 : Int) x.2.1 (Go.Proofs.Ytgnellpcphepjaa.VX.toN x.2.2.2)) != (Go.Proofs.Ytgnellpcphepjaa.VX.getAt (0 : Int) x.1 (Go.Proofs.Ytgnellpcphepjaa.VX.toN x.2.2.2))) then
          some (.inr (.inl false))
        else
          some (.inl (x.1, (x.2.1, (x.2.2.1, (Go.IntKind.wrap Go.IntKind.i64 (x.2.2.2 + (1 : Int)))))))
      else
        none
    else
      none
  else
    some (.inr (.inr ()))
noncomputable def cx_plaitref04_Is_5 : Ctx := { tb := mkTb T2.tbl, fx := [(21, [], Spec.shp si_plaitref04_Right so_plaitref04_Right F_plaitref04_Right), (44, [], Spec.shp si_plaitref04_Items so_plaitref04_Items F_plaitref04_Items)], sum := [], nt := 40, pin := 0, nr := true, ys := [] }
theorem L_plaitref04_Is_5_ok : CSound Try.prog ⟨40, 0, true⟩ (.loop (loopOf 5 Try.f43)) (pieceSpec sh_plaitref04_Is_5 es_plaitref04_Is_5 (loop L_plaitref04_Is_5)) :=
  loop_sound (C := cx_plaitref04_Is_5) (ctxOK mixed tbl_ok rfl ⟨F_plaitref04_Right_ok, F_plaitref04_Items_ok, trivial⟩ trivial) (SumOK.of trivial) sh_plaitref04_Is_5 es_plaitref04_Is_5 rfl rfl L_plaitref04_Is_5 (fun x => by kernel_rfl)
abbrev si_plaitref04_Is : Shape := { sl := [(0, (.hole (.pair (.int .i64) (.pair (.int .i64) (.pair (.slice (.int .i64)) (.int .i64)))))), (1, (.hole (.int .i64))), (2, (.hole (.slice (.int .i64))))], bl := [], ts := [(.pair (.int .i64) (.pair (.int .i64) (.pair (.slice (.int .i64)) (.int .i64)))), (.int .i64), (.slice (.int .i64))], pin := 0 }
abbrev so_plaitref04_Is : Shape := { sl := [(0, (.hole .bool))], bl := [], ts := [.bool], pin := 0 }
noncomputable def F_plaitref04_Is (x : ((Int × (Int × (List (Int) × Int))) × Int × List (Int))) : Option (Bool) :=
  ((F_plaitref04_Right x.1)).bind fun r18 =>
  bif (Bool.not r18) then
    some false
  else
    bif (x.1.1 != x.2.1) then
      some false
    else
      bif (x.1.2.2.2 != (((List.length x.2.2) : Nat) : Int)) then
        some false
      else
        ((F_plaitref04_Items x.1)).bind fun r19 =>
        ((loop L_plaitref04_Is_5 (x.2.2, (r19, ((((List.length r19) : Nat) : Int), (0 : Int)))))).bind fun r20 =>
        match r20 with
        | .inl y21 =>
          some y21
        | .inr y21 =>
          some true
noncomputable def cx_plaitref04_Is : Ctx := { tb := mkTb T2.tbl, fx := [(21, [], Spec.shp si_plaitref04_Right so_plaitref04_Right F_plaitref04_Right), (44, [], Spec.shp si_plaitref04_Items so_plaitref04_Items F_plaitref04_Items)], sum := [(0, 5, pieceSpec sh_plaitref04_Is_5 es_plaitref04_Is_5 (loop L_plaitref04_Is_5))], nt := 40, pin := 0, nr := true, ys := [] }
theorem F_plaitref04_Is_ok : Sound Try.prog 43 (Spec.shp si_plaitref04_Is so_plaitref04_Is F_plaitref04_Is) :=
  Sound.shp (C := cx_plaitref04_Is) (fn := Try.f43) (by kernel_rfl) (c := bodyOf Try.f43) (by kernel_rfl) (by decide) (ctxOK mixed tbl_ok rfl ⟨F_plaitref04_Right_ok, F_plaitref04_Items_ok, trivial⟩ trivial) (SumOK.of ⟨(pieces_one (d := .loop (loopOf 5 Try.f43)) (by kernel_rfl) L_plaitref04_Is_5_ok), trivial⟩) (by kernel_rfl) si_plaitref04_Is so_plaitref04_Is rfl (by decide) (by decide) rfl (by decide) rfl F_plaitref04_Is (fun x => by kernel_rfl)
abbrev si_plaitref09_Same : Shape := { sl := [(0, (.hole (.pair (.int .i64) (.pair .bool (.pair (.pair (.int .i64) (.pair (.int .i64) (.pair (.slice (.int .i64)) (.int .i64)))) (.pair (.int .i64) (.pair (.int .i64) (.pair (.slice (.pair (.int .i64) (.pair (.int .i64) (.int .i64)))) (.slice (.pair (.int .i64) (.pair (.int .i64) (.int .i64)))))))))))), (1, (.hole (.pair (.int .i64) (.pair .bool (.pair (.pair (.int .i64) (.pair (.int .i64) (.pair (.slice (.int .i64)) (.int .i64)))) (.pair (.int .i64) (.pair (.int .i64) (.pair (.slice (.pair (.int .i64) (.pair (.int .i64) (.int .i64)))) (.slice (.pair (.int .i64) (.pair (.int .i64) (.int .i64))))))))))))], bl := [], ts := [(.pair (.int .i64) (.pair .bool (.pair (.pair (.int .i64) (.pair (.int .i64) (.pair (.slice (.int .i64)) (.int .i64)))) (.pair (.int .i64) (.pair (.int .i64) (.pair (.slice (.pair (.int .i64) (.pair (.int .i64) (.int .i64)))) (.slice (.pair (.int .i64) (.pair (.int .i64) (.int .i64)))))))))), (.pair (.int .i64) (.pair .bool (.pair (.pair (.int .i64) (.pair (.int .i64) (.pair (.slice (.int .i64)) (.int .i64)))) (.pair (.int .i64) (.pair (.int .i64) (.pair (.slice (.pair (.int .i64) (.pair (.int .i64) (.int .i64)))) (.slice (.pair (.int .i64) (.pair (.int .i64) (.int .i64))))))))))], pin := 0 }
abbrev so_plaitref09_Same : Shape := { sl := [(0, (.hole .bool))], bl := [], ts := [.bool], pin := 0 }
noncomputable def F_plaitref09_Same (x : ((Int × (Bool × ((Int × (Int × (List (Int) × Int))) × (Int × (Int × (List ((Int × (Int × Int))) × List ((Int × (Int × Int))))))))) × (Int × (Bool × ((Int × (Int × (List (Int) × Int))) × (Int × (Int × (List ((Int × (Int × Int))) × List ((Int × (Int × Int))))))))))) : Option (Bool) :=
  bif (x.1.1 != x.2.1) then
    some false
  else
    bif (Bool.not (x.1.2.1 == x.2.2.1)) then
      some false
    else
      bif (x.1.2.2.2.1 != x.2.2.2.2.1) then
        some false
      else
        bif (x.1.2.2.2.2.1 != x.2.2.2.2.2.1) then
          some false
        else
          ((F_plaitref05_Same (x.1.2.2.2.2.2.1, x.2.2.2.2.2.2.1))).bind fun r13 =>
          bif (Bool.not r13) then
            some false
          else
            ((F_plaitref05_Same (x.1.2.2.2.2.2.2, x.2.2.2.2.2.2.2))).bind fun r14 =>
            bif (Bool.not r14) then
              some false
            else
              ((F_plaitref04_Right x.2.2.2.1)).bind fun r15 =>
              bif r15 then
                ((F_plaitref04_Items x.2.2.2.1)).bind fun r16 =>
                ((F_plaitref04_Is (x.1.2.2.1, (x.2.2.2.1.1, r16)))).bind fun r17 =>
                some r17
              else
                some false
noncomputable def cx_plaitref09_Same : Ctx := { tb := mkTb T2.tbl, fx := [(25, [], Spec.shp si_plaitref05_Same so_plaitref05_Same F_plaitref05_Same), (21, [], Spec.shp si_plaitref04_Right so_plaitref04_Right F_plaitref04_Right), (44, [], Spec.shp si_plaitref04_Items so_plaitref04_Items F_plaitref04_Items), (43, [], Spec.shp si_plaitref04_Is so_plaitref04_Is F_plaitref04_Is)], sum := [], nt := 61, pin := 0, nr := true, ys := [] }
theorem F_plaitref09_Same_ok : Sound Try.prog 16 (Spec.shp si_plaitref09_Same so_plaitref09_Same F_plaitref09_Same) :=
  Sound.shp (C := cx_plaitref09_Same) (fn := Try.f16) (by kernel_rfl) (c := bodyOf Try.f16) (by kernel_rfl) (by decide) (ctxOK mixed tbl_ok rfl ⟨F_plaitref05_Same_ok, F_plaitref04_Right_ok, F_plaitref04_Items_ok, F_plaitref04_Is_ok, trivial⟩ trivial) (SumOK.of trivial) (by kernel_rfl) si_plaitref09_Same so_plaitref09_Same rfl (by decide) (by decide) rfl (by decide) rfl F_plaitref09_Same (fun x => by kernel_rfl)
abbrev sh_plaitref05_First_3 : Shape := { sl := [(1, (.hole (.int .i64))), (7, (.hole (.slice (.pair (.int .i64) (.pair (.int .i64) (.int .i64)))))), (8, (.hole (.int .i64))), (9, (.hole (.int .i64)))], bl := [], ts := [(.int .i64), (.slice (.pair (.int .i64) (.pair (.int .i64) (.int .i64)))), (.int .i64), (.int .i64)], pin := 0 }
abbrev es_plaitref05_First_3 : List (ETag × Shape) := [(.ret, { sl := [(4, (.hole (.int .i64)))], bl := [], ts := [(.int .i64)], pin := 0 }), (.exit 0, { sl := [], bl := [], ts := [], pin := 0 })]
noncomputable def L_plaitref05_First_3 (x : (Int × List ((Int × (Int × Int))) × Int × Int)) : Option ((Int × List ((Int × (Int × Int))) × Int × Int) ⊕ ((Int) ⊕ Unit)) :=
  bif (decide (x.2.2.2 < x.2.2.1)) then
    bif (Go.Proofs.Ytgnellpcphepjaa.VX.inb x.2.2.2 (List.length x.2.1)) then
      bif ((Go.Proofs.Ytgnellpcphepjaa.VX.getAt ((0 : Int), ((0 : Int), (0 : Int))) x.2.1 (Go.Proofs.Ytgnellpcphepjaa.VX.toN x.2.2.2)).1 != x.1) then
        some (.inr (.inl x.2.2.2))
      else
        some (.inl (x.1, (x.2.1, (x.2.2.1, (Go.IntKind.wrap Go.IntKind.i64 (x.2.2.2 + (1 : Int)))))))
    else
      none
  else
    some (.inr (.inr ()))
noncomputable def cx_plaitref05_First_3 : Ctx := { tb := mkTb T2.tbl, fx := [], sum := [], nt := 20, pin := 0, nr := true, ys := [] }
theorem L_plaitref05_First_3_ok : CSound Try.prog ⟨20, 0, true⟩ (.loop (loopOf 3 Try.f40)) (pieceSpec sh_plaitref05_First_3 es_plaitref05_First_3 (loop L_plaitref05_First_3)) :=
  loop_sound (C := cx_plaitref05_First_3) (ctxOK mixed tbl_ok rfl trivial trivial) (SumOK.of trivial) sh_plaitref05_First_3 es_plaitref05_First_3 rfl rfl L_plaitref05_First_3 (fun x => by kernel_rfl)
abbrev si_plaitref05_First : Shape := { sl := [(0, (.hole (.slice (.pair (.int .i64) (.pair (.int .i64) (.int .i64)))))), (1, (.hole (.int .i64)))], bl := [], ts := [(.slice (.pair (.int .i64) (.pair (.int .i64) (.int .i64)))), (.int .i64)], pin := 0 }
abbrev so_plaitref05_First : Shape := { sl := [(0, (.hole (.int .i64)))], bl := [], ts := [(.int .i64)], pin := 0 }
noncomputable def F_plaitref05_First (x : (List ((Int × (Int × Int))) × Int)) : Option (Int) :=
  ((loop L_plaitref05_First_3 (x.2, (x.1, ((((List.length x.1) : Nat) : Int), (0 : Int)))))).bind fun r15 =>
  match r15 with
  | .inl y16 =>
    some y16
  | .inr y16 =>
    some (Int.negSucc 0)
noncomputable def cx_plaitref05_First : Ctx := { tb := mkTb T2.tbl, fx := [], sum := [(0, 3, pieceSpec sh_plaitref05_First_3 es_plaitref05_First_3 (loop L_plaitref05_First_3))], nt := 20, pin := 0, nr := true, ys := [] }
theorem F_plaitref05_First_ok : Sound Try.prog 40 (Spec.shp si_plaitref05_First so_plaitref05_First F_plaitref05_First) :=
  Sound.shp (C := cx_plaitref05_First) (fn := Try.f40) (by kernel_rfl) (c := bodyOf Try.f40) (by kernel_rfl) (by decide) (ctxOK mixed tbl_ok rfl trivial trivial) (SumOK.of ⟨(pieces_one (d := .loop (loopOf 3 Try.f40)) (by kernel_rfl) L_plaitref05_First_3_ok), trivial⟩) (by kernel_rfl) si_plaitref05_First so_plaitref05_First rfl (by decide) (by decide) rfl (by decide) rfl F_plaitref05_First (fun x => by kernel_rfl)
abbrev si_plaitref09_Ready : Shape := { sl := [(0, (.hole (.pair (.int .i64) (.pair .bool (.pair (.pair (.int .i64) (.pair (.int .i64) (.pair (.slice (.int .i64)) (.int .i64)))) (.pair (.int .i64) (.pair (.int .i64) (.pair (.slice (.pair (.int .i64) (.pair (.int .i64) (.int .i64)))) (.slice (.pair (.int .i64) (.pair (.int .i64) (.int .i64)))))))))))), (1, (.hole .bool)), (2, (.hole (.int .i64)))], bl := [], ts := [(.pair (.int .i64) (.pair .bool (.pair (.pair (.int .i64) (.pair (.int .i64) (.pair (.slice (.int .i64)) (.int .i64)))) (.pair (.int .i64) (.pair (.int .i64) (.pair (.slice (.pair (.int .i64) (.pair (.int .i64) (.int .i64)))) (.slice (.pair (.int .i64) (.pair (.int .i64) (.int .i64)))))))))), .bool, (.int .i64)], pin := 0 }
abbrev so_plaitref09_Ready : Shape := { sl := [(0, (.hole .bool))], bl := [], ts := [.bool], pin := 0 }
noncomputable def F_plaitref09_Ready (x : ((Int × (Bool × ((Int × (Int × (List (Int) × Int))) × (Int × (Int × (List ((Int × (Int × Int))) × List ((Int × (Int × Int))))))))) × Bool × Int)) : Option (Bool) :=
  bif (x.1.1 == (Int.negSucc 0)) then
    some false
  else
    bif x.1.2.1 then
      some true
    else
      bif x.2.1 then
        ((F_plaitref05_First (x.1.2.2.2.2.2.2, x.2.2))).bind fun r14 =>
        bif (decide (r14 ≥ (0 : Int))) then
          some true
        else
          some (decide (x.1.2.2.1.2.2.2 < x.1.1))
      else
        bif (decide (x.1.2.2.1.2.2.2 > (0 : Int))) then
          some true
        else
          ((F_plaitref05_First (x.1.2.2.2.2.2.1, x.2.2))).bind fun r14 =>
          some (decide (r14 ≥ (0 : Int)))
noncomputable def cx_plaitref09_Ready : Ctx := { tb := mkTb T2.tbl, fx := [(40, [], Spec.shp si_plaitref05_First so_plaitref05_First F_plaitref05_First)], sum := [], nt := 37, pin := 0, nr := true, ys := [] }
theorem F_plaitref09_Ready_ok : Sound Try.prog 26 (Spec.shp si_plaitref09_Ready so_plaitref09_Ready F_plaitref09_Ready) :=
  Sound.shp (C := cx_plaitref09_Ready) (fn := Try.f26) (by kernel_rfl) (c := bodyOf Try.f26) (by kernel_rfl) (by decide) (ctxOK mixed tbl_ok rfl ⟨F_plaitref05_First_ok, trivial⟩ trivial) (SumOK.of trivial) (by kernel_rfl) si_plaitref09_Ready so_plaitref09_Ready rfl (by decide) (by decide) rfl (by decide) rfl F_plaitref09_Ready (fun x => by kernel_rfl)
abbrev sh_plaitref05_Drop_4 : Shape := { sl := [(1, (.hole (.int .i64))), (5, (.sl 0)), (9, (.hole (.slice (.pair (.int .i64) (.pair (.int .i64) (.int .i64)))))), (10, (.hole (.int .i64))), (11, (.hole (.int .i64)))], bl := [.row (.pair (.int .i64) (.pair (.int .i64) (.int .i64)))], ts := [(.int .i64), (.slice (.pair (.int .i64) (.pair (.int .i64) (.int .i64)))), (.int .i64), (.int .i64), (.slice (.pair (.int .i64) (.pair (.int .i64) (.int .i64))))], pin := 0 }
abbrev es_plaitref05_Drop_4 : List (ETag × Shape) := [(.exit 0, { sl := [(5, (.sl 0))], bl := [.row (.pair (.int .i64) (.pair (.int .i64) (.int .i64)))], ts := [(.slice (.pair (.int .i64) (.pair (.int .i64) (.int .i64))))], pin := 0 })]
noncomputable def L_plaitref05_Drop_4 (x : (Int × List ((Int × (Int × Int))) × Int × Int × List ((Int × (Int × Int))))) : Option ((Int × List ((Int × (Int × Int))) × Int × Int × List ((Int × (Int × Int)))) ⊕ ((List ((Int × (Int × Int)))))) :=
  bif (decide (x.2.2.2.1 < x.2.2.1)) then
    bif (Go.Proofs.Ytgnellpcphepjaa.VX.inb x.2.2.2.1 (List.length x.2.1)) then
      bif ((Go.Proofs.Ytgnellpcphepjaa.VX.getAt ((0 : Int), ((0 : Int), (0 : Int))) x.2.1 (Go.Proofs.Ytgnellpcphepjaa.VX.toN x.2.2.2.1)).1 != x.1) then
        bif (Go.Proofs.Ytgnellpcphepjaa.VX.fits ((List.length x.2.2.2.2) + (List.length ((Go.Proofs.Ytgnellpcphepjaa.VX.getAt ((0 : Int), ((0 : Int), (0 : Int))) x.2.1 (Go.Proofs.Ytgnellpcphepjaa.VX.toN x.2.2.2.1)) :: ([] : List (Int × (Int × Int))))))) then
          some (.inl (x.1, (x.2.1, (x.2.2.1, ((Go.IntKind.wrap Go.IntKind.i64 (x.2.2.2.1 + (1 : Int))), (x.2.2.2.2 ++ ((Go.Proofs.Ytgnellpcphepjaa.VX.getAt ((0 : Int), ((0 : Int), (0 : Int))) x.2.1 (Go.Proofs.Ytgnellpcphepjaa.VX.toN x.2.2.2.1)) :: ([] : List (Int × (Int × Int))))))))))
        else
          none
      else
        some (.inl (x.1, (x.2.1, (x.2.2.1, ((Go.IntKind.wrap Go.IntKind.i64 (x.2.2.2.1 + (1 : Int))), x.2.2.2.2)))))
    else
      none
  else
    some (.inr x.2.2.2.2)
noncomputable def cx_plaitref05_Drop_4 : Ctx := { tb := mkTb T2.tbl, fx := [], sum := [], nt := 25, pin := 0, nr := true, ys := [] }
theorem L_plaitref05_Drop_4_ok : CSound Try.prog ⟨25, 0, true⟩ (.loop (loopOf 4 Try.f49)) (pieceSpec sh_plaitref05_Drop_4 es_plaitref05_Drop_4 (loop L_plaitref05_Drop_4)) :=
  loop_sound (C := cx_plaitref05_Drop_4) (ctxOK mixed tbl_ok rfl trivial trivial) (SumOK.of trivial) sh_plaitref05_Drop_4 es_plaitref05_Drop_4 rfl rfl L_plaitref05_Drop_4 (fun x => by kernel_rfl)
abbrev si_plaitref05_Drop : Shape := { sl := [(0, (.hole (.slice (.pair (.int .i64) (.pair (.int .i64) (.int .i64)))))), (1, (.hole (.int .i64)))], bl := [], ts := [(.slice (.pair (.int .i64) (.pair (.int .i64) (.int .i64)))), (.int .i64)], pin := 0 }
abbrev so_plaitref05_Drop : Shape := { sl := [(0, (.hole (.slice (.pair (.int .i64) (.pair (.int .i64) (.int .i64))))))], bl := [], ts := [(.slice (.pair (.int .i64) (.pair (.int .i64) (.int .i64))))], pin := 0 }
noncomputable def F_plaitref05_Drop (x : (List ((Int × (Int × Int))) × Int)) : Option (List ((Int × (Int × Int)))) :=
  ((loop L_plaitref05_Drop_4 (x.2, (x.1, ((((List.length x.1) : Nat) : Int), ((0 : Int), ([] : List (Int × (Int × Int))))))))).bind fun r16 =>
  some r16
noncomputable def cx_plaitref05_Drop : Ctx := { tb := mkTb T2.tbl, fx := [], sum := [(0, 4, pieceSpec sh_plaitref05_Drop_4 es_plaitref05_Drop_4 (loop L_plaitref05_Drop_4))], nt := 25, pin := 0, nr := true, ys := [] }
theorem F_plaitref05_Drop_ok : Sound Try.prog 49 (Spec.shp si_plaitref05_Drop so_plaitref05_Drop F_plaitref05_Drop) :=
  Sound.shp (C := cx_plaitref05_Drop) (fn := Try.f49) (by kernel_rfl) (c := bodyOf Try.f49) (by kernel_rfl) (by decide) (ctxOK mixed tbl_ok rfl trivial trivial) (SumOK.of ⟨(pieces_one (d := .loop (loopOf 4 Try.f49)) (by kernel_rfl) L_plaitref05_Drop_4_ok), trivial⟩) (by kernel_rfl) si_plaitref05_Drop so_plaitref05_Drop rfl (by decide) (by decide) rfl (by decide) rfl F_plaitref05_Drop (fun x => by kernel_rfl)
abbrev si_plaitref09_Leave : Shape := { sl := [(0, (.hole (.pair (.int .i64) (.pair .bool (.pair (.pair (.int .i64) (.pair (.int .i64) (.pair (.slice (.int .i64)) (.int .i64)))) (.pair (.int .i64) (.pair (.int .i64) (.pair (.slice (.pair (.int .i64) (.pair (.int .i64) (.int .i64)))) (.slice (.pair (.int .i64) (.pair (.int .i64) (.int .i64)))))))))))), (1, (.hole (.int .i64)))], bl := [], ts := [(.pair (.int .i64) (.pair .bool (.pair (.pair (.int .i64) (.pair (.int .i64) (.pair (.slice (.int .i64)) (.int .i64)))) (.pair (.int .i64) (.pair (.int .i64) (.pair (.slice (.pair (.int .i64) (.pair (.int .i64) (.int .i64)))) (.slice (.pair (.int .i64) (.pair (.int .i64) (.int .i64)))))))))), (.int .i64)], pin := 0 }
abbrev so_plaitref09_Leave : Shape := { sl := [(0, (.hole (.pair (.int .i64) (.pair .bool (.pair (.pair (.int .i64) (.pair (.int .i64) (.pair (.slice (.int .i64)) (.int .i64)))) (.pair (.int .i64) (.pair (.int .i64) (.pair (.slice (.pair (.int .i64) (.pair (.int .i64) (.int .i64)))) (.slice (.pair (.int .i64) (.pair (.int .i64) (.int .i64))))))))))))], bl := [], ts := [(.pair (.int .i64) (.pair .bool (.pair (.pair (.int .i64) (.pair (.int .i64) (.pair (.slice (.int .i64)) (.int .i64)))) (.pair (.int .i64) (.pair (.int .i64) (.pair (.slice (.pair (.int .i64) (.pair (.int .i64) (.int .i64)))) (.slice (.pair (.int .i64) (.pair (.int .i64) (.int .i64))))))))))], pin := 0 }
noncomputable def F_plaitref09_Leave (x : ((Int × (Bool × ((Int × (Int × (List (Int) × Int))) × (Int × (Int × (List ((Int × (Int × Int))) × List ((Int × (Int × Int))))))))) × Int)) : Option ((Int × (Bool × ((Int × (Int × (List (Int) × Int))) × (Int × (Int × (List ((Int × (Int × Int))) × List ((Int × (Int × Int)))))))))) :=
  ((F_plaitref05_Drop (x.1.2.2.2.2.2.1, x.2))).bind fun r15 =>
  ((F_plaitref05_Drop (x.1.2.2.2.2.2.2, x.2))).bind fun r16 =>
  some (x.1.1, (x.1.2.1, (x.1.2.2.1, (x.1.2.2.2.1, (x.1.2.2.2.2.1, (r15, r16))))))
noncomputable def cx_plaitref09_Leave : Ctx := { tb := mkTb T2.tbl, fx := [(49, [], Spec.shp si_plaitref05_Drop so_plaitref05_Drop F_plaitref05_Drop)], sum := [], nt := 16, pin := 0, nr := true, ys := [] }
theorem F_plaitref09_Leave_ok : Sound Try.prog 27 (Spec.shp si_plaitref09_Leave so_plaitref09_Leave F_plaitref09_Leave) :=
  Sound.shp (C := cx_plaitref09_Leave) (fn := Try.f27) (by kernel_rfl) (c := bodyOf Try.f27) (by kernel_rfl) (by decide) (ctxOK mixed tbl_ok rfl ⟨F_plaitref05_Drop_ok, trivial⟩ trivial) (SumOK.of trivial) (by kernel_rfl) si_plaitref09_Leave so_plaitref09_Leave rfl (by decide) (by decide) rfl (by decide) rfl F_plaitref09_Leave (fun x => by kernel_rfl)
abbrev sh_plaitref09_New_4 : Shape := { sl := [(0, (.hole (.int .i64))), (2, (.ptr 0 [])), (3, (.ptr 1 [])), (4, (.hole (.int .i64)))], bl := [.var (.pr (.hole (.int .i64)) (.pr (.hole .bool) (.pr (.pr (.hole (.int .i64)) (.pr (.hole (.int .i64)) (.pr .nl (.hole (.int .i64))))) (.pr (.hole (.int .i64)) (.pr (.hole (.int .i64)) (.pr .nl .nl)))))), .var (.pr (.hole (.int .i64)) (.pr (.hole .bool) (.pr (.pr (.hole (.int .i64)) (.pr (.hole (.int .i64)) (.pr (.sl 2) (.hole (.int .i64))))) (.pr (.hole (.int .i64)) (.pr (.hole (.int .i64)) (.pr .nl .nl)))))), .row (.int .i64)], ts := [(.int .i64), (.int .i64), (.int .i64), .bool, (.int .i64), (.int .i64), (.int .i64), (.int .i64), (.int .i64), (.int .i64), .bool, (.int .i64), (.int .i64), (.int .i64), (.int .i64), (.int .i64), (.slice (.int .i64))], pin := 0 }
abbrev es_plaitref09_New_4 : List (ETag × Shape) := [(.exit 0, { sl := [(2, (.ptr 0 [])), (3, (.ptr 1 []))], bl := [.var (.pr (.hole (.int .i64)) (.pr (.hole .bool) (.pr (.pr (.hole (.int .i64)) (.pr (.hole (.int .i64)) (.pr .nl (.hole (.int .i64))))) (.pr (.hole (.int .i64)) (.pr (.hole (.int .i64)) (.pr .nl .nl)))))), .var (.pr (.hole (.int .i64)) (.pr (.hole .bool) (.pr (.pr (.hole (.int .i64)) (.pr (.hole (.int .i64)) (.pr (.sl 2) (.hole (.int .i64))))) (.pr (.hole (.int .i64)) (.pr (.hole (.int .i64)) (.pr .nl .nl)))))), .row (.int .i64)], ts := [(.int .i64), .bool, (.int .i64), (.int .i64), (.int .i64), (.int .i64), (.int .i64), (.int .i64), .bool, (.int .i64), (.int .i64), (.int .i64), (.int .i64), (.int .i64), (.slice (.int .i64))], pin := 0 })]
noncomputable def L_plaitref09_New_4 (x : (Int × Int × Int × Bool × Int × Int × Int × Int × Int × Int × Bool × Int × Int × Int × Int × Int × List (Int))) : Option ((Int × Int × Int × Bool × Int × Int × Int × Int × Int × Int × Bool × Int × Int × Int × Int × Int × List (Int)) ⊕ ((Int × Bool × Int × Int × Int × Int × Int × Int × Bool × Int × Int × Int × Int × Int × List (Int)))) :=
  bif (decide (x.2.1 < x.1)) then
    bif (Go.Proofs.Ytgnellpcphepjaa.VX.fits ((List.length x.2.2.2.2.2.2.2.2.2.2.2.2.2.2.2.2) + (List.length ((0 : Int) :: ([] : List Int))))) then
      some (.inl (x.1, ((Go.IntKind.wrap Go.IntKind.i64 (x.2.1 + (1 : Int))), (x.2.2.1, (x.2.2.2.1, (x.2.2.2.2.1, (x.2.2.2.2.2.1, (x.2.2.2.2.2.2.1, (x.2.2.2.2.2.2.2.1, (x.2.2.2.2.2.2.2.2.1, (x.2.2.2.2.2.2.2.2.2.1, (x.2.2.2.2.2.2.2.2.2.2.1, (x.2.2.2.2.2.2.2.2.2.2.2.1, (x.2.2.2.2.2.2.2.2.2.2.2.2.1, (x.2.2.2.2.2.2.2.2.2.2.2.2.2.1, (x.2.2.2.2.2.2.2.2.2.2.2.2.2.2.1, (x.2.2.2.2.2.2.2.2.2.2.2.2.2.2.2.1, (x.2.2.2.2.2.2.2.2.2.2.2.2.2.2.2.2 ++ ((0 : Int) :: ([] : List Int))))))))))))))))))))
    else
      none
  else
    some (.inr (x.2.2.1, (x.2.2.2.1, (x.2.2.2.2.1, (x.2.2.2.2.2.1, (x.2.2.2.2.2.2.1, (x.2.2.2.2.2.2.2.1, (x.2.2.2.2.2.2.2.2.1, (x.2.2.2.2.2.2.2.2.2.1, (x.2.2.2.2.2.2.2.2.2.2.1, (x.2.2.2.2.2.2.2.2.2.2.2.1, (x.2.2.2.2.2.2.2.2.2.2.2.2.1, (x.2.2.2.2.2.2.2.2.2.2.2.2.2.1, (x.2.2.2.2.2.2.2.2.2.2.2.2.2.2.1, (x.2.2.2.2.2.2.2.2.2.2.2.2.2.2.2.1, x.2.2.2.2.2.2.2.2.2.2.2.2.2.2.2.2)))))))))))))))
noncomputable def cx_plaitref09_New_4 : Ctx := { tb := mkTb T2.tbl, fx := [], sum := [], nt := 23, pin := 0, nr := true, ys := [] }
theorem L_plaitref09_New_4_ok : CSound Try.prog ⟨23, 0, true⟩ (.loop (loopOf 4 Try.f23)) (pieceSpec sh_plaitref09_New_4 es_plaitref09_New_4 (loop L_plaitref09_New_4)) :=
  loop_sound (C := cx_plaitref09_New_4) (ctxOK mixed tbl_ok rfl trivial trivial) (SumOK.of trivial) sh_plaitref09_New_4 es_plaitref09_New_4 rfl rfl L_plaitref09_New_4 (fun x => by kernel_rfl)
abbrev si_plaitref09_New : Shape := { sl := [(0, (.hole (.int .i64)))], bl := [], ts := [(.int .i64)], pin := 0 }
abbrev so_plaitref09_New : Shape := { sl := [(0, (.hole (.pair (.int .i64) (.pair .bool (.pair (.pair (.int .i64) (.pair (.int .i64) (.pair (.slice (.int .i64)) (.int .i64)))) (.pair (.int .i64) (.pair (.int .i64) (.pair (.slice (.pair (.int .i64) (.pair (.int .i64) (.int .i64)))) (.slice (.pair (.int .i64) (.pair (.int .i64) (.int .i64))))))))))))], bl := [], ts := [(.pair (.int .i64) (.pair .bool (.pair (.pair (.int .i64) (.pair (.int .i64) (.pair (.slice (.int .i64)) (.int .i64)))) (.pair (.int .i64) (.pair (.int .i64) (.pair (.slice (.pair (.int .i64) (.pair (.int .i64) (.int .i64)))) (.slice (.pair (.int .i64) (.pair (.int .i64) (.int .i64))))))))))], pin := 0 }
noncomputable def F_plaitref09_New (x : (Int)) : Option ((Int × (Bool × ((Int × (Int × (List (Int) × Int))) × (Int × (Int × (List ((Int × (Int × Int))) × List ((Int × (Int × Int)))))))))) :=
  ((loop L_plaitref09_New_4 (x, ((0 : Int), ((0 : Int), (false, ((0 : Int), ((0 : Int), ((0 : Int), ((0 : Int), ((0 : Int), (x, (false, ((Max.max x (0 : Int)), ((0 : Int), ((0 : Int), ((0 : Int), ((0 : Int), ([] : List Int))))))))))))))))))).bind fun r10 =>
  some (r10.2.2.2.2.2.2.2.1, (r10.2.2.2.2.2.2.2.2.1, ((r10.2.2.2.2.2.2.2.2.2.1, (r10.2.2.2.2.2.2.2.2.2.2.1, (r10.2.2.2.2.2.2.2.2.2.2.2.2.2.2, r10.2.2.2.2.2.2.2.2.2.2.2.1))), (r10.2.2.2.2.2.2.2.2.2.2.2.2.1, (r10.2.2.2.2.2.2.2.2.2.2.2.2.2.1, (([] : List (Int × (Int × Int))), ([] : List (Int × (Int × Int)))))))))
noncomputable def cx_plaitref09_New : Ctx := { tb := mkTb T2.tbl, fx := [], sum := [(0, 4, pieceSpec sh_plaitref09_New_4 es_plaitref09_New_4 (loop L_plaitref09_New_4))], nt := 23, pin := 0, nr := true, ys := [] }
theorem F_plaitref09_New_ok : Sound Try.prog 23 (Spec.shp si_plaitref09_New so_plaitref09_New F_plaitref09_New) :=
  Sound.shp (C := cx_plaitref09_New) (fn := Try.f23) (by kernel_rfl) (c := bodyOf Try.f23) (by kernel_rfl) (by decide) (ctxOK mixed tbl_ok rfl trivial trivial) (SumOK.of ⟨(pieces_one (d := .loop (loopOf 4 Try.f23)) (by kernel_rfl) L_plaitref09_New_4_ok), trivial⟩) (by kernel_rfl) si_plaitref09_New so_plaitref09_New rfl (by decide) (by decide) rfl (by decide) rfl F_plaitref09_New (fun x => by kernel_rfl)
noncomputable def F_plaitlaw09_ChansTell (x : (Int × (Int × (Bool × ((Int × (Int × (List (Int) × Int))) × (Int × (Int × (List ((Int × (Int × Int))) × List ((Int × (Int × Int))))))))) × Bool × Int)) : Option (Bool) :=
  ((F_plaitlaw09_few x.2.1)).bind fun r1 =>
  ((F_chans_New x.1)).bind fun r2 =>
  ((F_chans_Ready (r1, (x.2.2.1, x.2.2.2)))).bind fun r3 =>
  ((F_chans_Close r1)).bind fun r4 =>
  ((F_chans_Leave (r1, x.2.2.2))).bind fun r5 =>
  ((F_plaitref09_Right r1)).bind fun r6 =>
  ((F_chans_Right r1)).bind fun r7 =>
  bif (Bool.not (r7 == r6)) then
    some false
  else
    ((F_plaitlaw09_alive ())).bind fun r8 =>
    bif (Bool.not r8) then
      some false
    else
      bif (decide (x.1 < (Int.negSucc 0))) then
        bif (r2.2 != (2 : Int)) then
          some false
        else
          ((F_plaitlaw09_empty r2.1)).bind fun r9 =>
          bif (Bool.not r9) then
            some false
          else
            bif (Bool.not r6) then
              bif (r3.2 == (1 : Int)) then
                bif (r4.2.2.2 == (1 : Int)) then
                  bif (r5.2 == (1 : Int)) then
                    bif (Bool.not r3.1) then
                      ((F_plaitlaw09_empty r4.1)).bind fun r10 =>
                      bif r10 then
                        bif ((((List.length r4.2.1) : Nat) : Int) == (0 : Int)) then
                          bif (Bool.not r4.2.2.1) then
                            ((F_plaitlaw09_empty r5.1)).bind fun r11 =>
                            some r11
                          else
                            some false
                        else
                          some false
                      else
                        some false
                    else
                      some false
                  else
                    some false
                else
                  some false
              else
                some false
            else
              ((F_plaitref09_Close r1)).bind fun r10 =>
              bif (r4.2.2.2 != (0 : Int)) then
                some false
              else
                bif (Bool.not (r4.2.2.1 == r10.2.2)) then
                  some false
                else
                  ((F_plaitref05_Same (r4.2.1, r10.2.1))).bind fun r11 =>
                  bif (Bool.not r11) then
                    some false
                  else
                    ((F_plaitref09_Same (r4.1, r10.1))).bind fun r12 =>
                    bif (Bool.not r12) then
                      some false
                    else
                      bif (decide (x.2.2.2 < (0 : Int))) then
                        bif (r3.2 == (1 : Int)) then
                          bif (r5.2 == (1 : Int)) then
                            bif (Bool.not r3.1) then
                              ((F_plaitlaw09_empty r5.1)).bind fun r13 =>
                              some r13
                            else
                              some false
                          else
                            some false
                        else
                          some false
                      else
                        bif (r3.2 == (0 : Int)) then
                          bif (r5.2 == (0 : Int)) then
                            ((F_plaitref09_Ready (r1, (x.2.2.1, x.2.2.2)))).bind fun r13 =>
                            bif (r3.1 == r13) then
                              ((F_plaitref09_Leave (r1, x.2.2.2))).bind fun r14 =>
                              ((F_plaitref09_Same (r5.1, r14))).bind fun r15 =>
                              some r15
                            else
                              some false
                          else
                            some false
                        else
                          some false
      else
        bif (decide (x.1 > (3 : Int))) then
          bif (r2.2 != (2 : Int)) then
            some false
          else
            ((F_plaitlaw09_empty r2.1)).bind fun r9 =>
            bif (Bool.not r9) then
              some false
            else
              bif (Bool.not r6) then
                bif (r3.2 == (1 : Int)) then
                  bif (r4.2.2.2 == (1 : Int)) then
                    bif (r5.2 == (1 : Int)) then
                      bif (Bool.not r3.1) then
                        ((F_plaitlaw09_empty r4.1)).bind fun r10 =>
                        bif r10 then
                          bif ((((List.length r4.2.1) : Nat) : Int) == (0 : Int)) then
                            bif (Bool.not r4.2.2.1) then
                              ((F_plaitlaw09_empty r5.1)).bind fun r11 =>
                              some r11
                            else
                              some false
                          else
                            some false
                        else
                          some false
                      else
                        some false
                    else
                      some false
                  else
                    some false
                else
                  some false
              else
                ((F_plaitref09_Close r1)).bind fun r10 =>
                bif (r4.2.2.2 != (0 : Int)) then
                  some false
                else
                  bif (Bool.not (r4.2.2.1 == r10.2.2)) then
                    some false
                  else
                    ((F_plaitref05_Same (r4.2.1, r10.2.1))).bind fun r11 =>
                    bif (Bool.not r11) then
                      some false
                    else
                      ((F_plaitref09_Same (r4.1, r10.1))).bind fun r12 =>
                      bif (Bool.not r12) then
                        some false
                      else
                        bif (decide (x.2.2.2 < (0 : Int))) then
                          bif (r3.2 == (1 : Int)) then
                            bif (r5.2 == (1 : Int)) then
                              bif (Bool.not r3.1) then
                                ((F_plaitlaw09_empty r5.1)).bind fun r13 =>
                                some r13
                              else
                                some false
                            else
                              some false
                          else
                            some false
                        else
                          bif (r3.2 == (0 : Int)) then
                            bif (r5.2 == (0 : Int)) then
                              ((F_plaitref09_Ready (r1, (x.2.2.1, x.2.2.2)))).bind fun r13 =>
                              bif (r3.1 == r13) then
                                ((F_plaitref09_Leave (r1, x.2.2.2))).bind fun r14 =>
                                ((F_plaitref09_Same (r5.1, r14))).bind fun r15 =>
                                some r15
                              else
                                some false
                            else
                              some false
                          else
                            some false
        else
          bif (r2.2 != (0 : Int)) then
            some false
          else
            ((F_plaitref09_New x.1)).bind fun r9 =>
            ((F_plaitref09_Same (r2.1, r9))).bind fun r10 =>
            bif (Bool.not r10) then
              some false
            else
              bif (Bool.not r6) then
                bif (r3.2 == (1 : Int)) then
                  bif (r4.2.2.2 == (1 : Int)) then
                    bif (r5.2 == (1 : Int)) then
                      bif (Bool.not r3.1) then
                        ((F_plaitlaw09_empty r4.1)).bind fun r11 =>
                        bif r11 then
                          bif ((((List.length r4.2.1) : Nat) : Int) == (0 : Int)) then
                            bif (Bool.not r4.2.2.1) then
                              ((F_plaitlaw09_empty r5.1)).bind fun r12 =>
                              some r12
                            else
                              some false
                          else
                            some false
                        else
                          some false
                      else
                        some false
                    else
                      some false
                  else
                    some false
                else
                  some false
              else
                ((F_plaitref09_Close r1)).bind fun r11 =>
                bif (r4.2.2.2 != (0 : Int)) then
                  some false
                else
                  bif (Bool.not (r4.2.2.1 == r11.2.2)) then
                    some false
                  else
                    ((F_plaitref05_Same (r4.2.1, r11.2.1))).bind fun r12 =>
                    bif (Bool.not r12) then
                      some false
                    else
                      ((F_plaitref09_Same (r4.1, r11.1))).bind fun r13 =>
                      bif (Bool.not r13) then
                        some false
                      else
                        bif (decide (x.2.2.2 < (0 : Int))) then
                          bif (r3.2 == (1 : Int)) then
                            bif (r5.2 == (1 : Int)) then
                              bif (Bool.not r3.1) then
                                ((F_plaitlaw09_empty r5.1)).bind fun r14 =>
                                some r14
                              else
                                some false
                            else
                              some false
                          else
                            some false
                        else
                          bif (r3.2 == (0 : Int)) then
                            bif (r5.2 == (0 : Int)) then
                              ((F_plaitref09_Ready (r1, (x.2.2.1, x.2.2.2)))).bind fun r14 =>
                              bif (r3.1 == r14) then
                                ((F_plaitref09_Leave (r1, x.2.2.2))).bind fun r15 =>
                                ((F_plaitref09_Same (r5.1, r15))).bind fun r16 =>
                                some r16
                              else
                                some false
                            else
                              some false
                          else
                            some false
noncomputable def cx_plaitlaw09_ChansTell : Ctx := { tb := mkTb T2.tbl, fx := [(7, [], Spec.shp si_plaitlaw09_few so_plaitlaw09_few F_plaitlaw09_few), (22, [], Spec.shp si_chans_New so_chans_New F_chans_New), (19, [], Spec.shp si_chans_Ready so_chans_Ready F_chans_Ready), (17, [], Spec.shp si_chans_Close so_chans_Close F_chans_Close), (18, [], Spec.shp si_chans_Leave so_chans_Leave F_chans_Leave), (10, [], Spec.shp si_plaitref09_Right so_plaitref09_Right F_plaitref09_Right), (20, [], Spec.shp si_chans_Right so_chans_Right F_chans_Right), (12, [], Spec.shp si_plaitlaw09_alive so_plaitlaw09_alive F_plaitlaw09_alive), (13, [], Spec.shp si_plaitlaw09_empty so_plaitlaw09_empty F_plaitlaw09_empty), (24, [], Spec.shp si_plaitref09_Close so_plaitref09_Close F_plaitref09_Close), (25, [], Spec.shp si_plaitref05_Same so_plaitref05_Same F_plaitref05_Same), (16, [], Spec.shp si_plaitref09_Same so_plaitref09_Same F_plaitref09_Same), (26, [], Spec.shp si_plaitref09_Ready so_plaitref09_Ready F_plaitref09_Ready), (27, [], Spec.shp si_plaitref09_Leave so_plaitref09_Leave F_plaitref09_Leave), (23, [], Spec.shp si_plaitref09_New so_plaitref09_New F_plaitref09_New)], sum := [], nt := 177, pin := 0, nr := true, ys := [] }
theorem F_plaitlaw09_ChansTell_ok : Sound Try.prog 6 (Spec.pure [(.int .i64), (.pair (.int .i64) (.pair .bool (.pair (.pair (.int .i64) (.pair (.int .i64) (.pair (.slice (.int .i64)) (.int .i64)))) (.pair (.int .i64) (.pair (.int .i64) (.pair (.slice (.pair (.int .i64) (.pair (.int .i64) (.int .i64)))) (.slice (.pair (.int .i64) (.pair (.int .i64) (.int .i64)))))))))), .bool, (.int .i64)] [.bool] F_plaitlaw09_ChansTell) :=
  Sound.pure (C := cx_plaitlaw09_ChansTell) (fn := Try.f6) (by kernel_rfl) (c := bodyOf Try.f6) (by kernel_rfl) (by decide) (ctxOK mixed tbl_ok rfl ⟨F_plaitlaw09_few_ok, F_chans_New_ok, F_chans_Ready_ok, F_chans_Close_ok, F_chans_Leave_ok, F_plaitref09_Right_ok, F_chans_Right_ok, F_plaitlaw09_alive_ok, F_plaitlaw09_empty_ok, F_plaitref09_Close_ok, F_plaitref05_Same_ok, F_plaitref09_Same_ok, F_plaitref09_Ready_ok, F_plaitref09_Leave_ok, F_plaitref09_New_ok, trivial⟩) (SumOK.of trivial) (by kernel_rfl) rfl _ _ (by decide) _ (fun x => by kernel_rfl)
abbrev si_plaitref09_nobody : Shape := { sl := [], bl := [], ts := [], pin := 0 }
abbrev so_plaitref09_nobody : Shape := { sl := [(0, (.hole (.pair (.int .i64) (.pair (.int .i64) (.int .i64)))))], bl := [], ts := [(.pair (.int .i64) (.pair (.int .i64) (.int .i64)))], pin := 0 }
noncomputable def F_plaitref09_nobody (x : Unit) : Option ((Int × (Int × Int))) :=
  some ((Int.negSucc 0), ((0 : Int), (0 : Int)))
noncomputable def cx_plaitref09_nobody : Ctx := { tb := mkTb T2.tbl, fx := [], sum := [], nt := 2, pin := 0, nr := true, ys := [] }
theorem F_plaitref09_nobody_ok : Sound Try.prog 39 (Spec.shp si_plaitref09_nobody so_plaitref09_nobody F_plaitref09_nobody) :=
  Sound.shp (C := cx_plaitref09_nobody) (fn := Try.f39) (by kernel_rfl) (c := bodyOf Try.f39) (by kernel_rfl) (by decide) (ctxOK mixed tbl_ok rfl trivial trivial) (SumOK.of trivial) (by kernel_rfl) si_plaitref09_nobody so_plaitref09_nobody rfl (by decide) (by decide) rfl (by decide) rfl F_plaitref09_nobody (fun x => by kernel_rfl)
abbrev sh_plaitref09_of_4 : Shape := { sl := [(0, (.hole (.int .i64))), (1, (.hole (.int .i64))), (2, (.hole (.int .i64))), (6, (.ptr 0 [])), (7, (.ptr 1 [])), (8, (.hole (.int .i64)))], bl := [.var (.pr (.hole (.int .i64)) (.pr (.hole (.int .i64)) (.pr .nl (.hole (.int .i64))))), .var (.pr (.hole (.int .i64)) (.pr (.hole (.int .i64)) (.pr (.sl 2) (.hole (.int .i64))))), .row (.int .i64)], ts := [(.int .i64), (.int .i64), (.int .i64), (.int .i64), (.int .i64), (.int .i64), (.int .i64), (.int .i64), (.int .i64), (.int .i64), (.slice (.int .i64))], pin := 0 }
abbrev es_plaitref09_of_4 : List (ETag × Shape) := [(.exit 0, { sl := [(6, (.ptr 0 [])), (7, (.ptr 1 []))], bl := [.var (.pr (.hole (.int .i64)) (.pr (.hole (.int .i64)) (.pr .nl (.hole (.int .i64))))), .var (.pr (.hole (.int .i64)) (.pr (.hole (.int .i64)) (.pr (.sl 2) (.hole (.int .i64))))), .row (.int .i64)], ts := [(.int .i64), (.int .i64), (.int .i64), (.int .i64), (.int .i64), (.int .i64), (.slice (.int .i64))], pin := 0 })]
noncomputable def L_plaitref09_of_4 (x : (Int × Int × Int × Int × Int × Int × Int × Int × Int × Int × List (Int))) : Option ((Int × Int × Int × Int × Int × Int × Int × Int × Int × Int × List (Int)) ⊕ ((Int × Int × Int × Int × Int × Int × List (Int)))) :=
  bif (decide (x.2.2.2.1 < x.1)) then
    bif (decide ((Go.IntKind.wrap Go.IntKind.i64 (x.2.1 + x.2.2.2.1)) < x.2.2.1)) then
      bif (Go.Proofs.Ytgnellpcphepjaa.VX.fits ((List.length x.2.2.2.2.2.2.2.2.2.2) + (List.length ((Go.IntKind.wrap Go.IntKind.i64 (x.2.1 + x.2.2.2.1)) :: ([] : List Int))))) then
        some (.inl (x.1, (x.2.1, (x.2.2.1, ((Go.IntKind.wrap Go.IntKind.i64 (x.2.2.2.1 + (1 : Int))), (x.2.2.2.2.1, (x.2.2.2.2.2.1, (x.2.2.2.2.2.2.1, (x.2.2.2.2.2.2.2.1, (x.2.2.2.2.2.2.2.2.1, ((Go.IntKind.wrap Go.IntKind.i64 (x.2.2.2.2.2.2.2.2.2.1 + (1 : Int))), (x.2.2.2.2.2.2.2.2.2.2 ++ ((Go.IntKind.wrap Go.IntKind.i64 (x.2.1 + x.2.2.2.1)) :: ([] : List Int))))))))))))))
      else
        none
    else
      bif (Go.Proofs.Ytgnellpcphepjaa.VX.fits ((List.length x.2.2.2.2.2.2.2.2.2.2) + (List.length ((0 : Int) :: ([] : List Int))))) then
        some (.inl (x.1, (x.2.1, (x.2.2.1, ((Go.IntKind.wrap Go.IntKind.i64 (x.2.2.2.1 + (1 : Int))), (x.2.2.2.2.1, (x.2.2.2.2.2.1, (x.2.2.2.2.2.2.1, (x.2.2.2.2.2.2.2.1, (x.2.2.2.2.2.2.2.2.1, (x.2.2.2.2.2.2.2.2.2.1, (x.2.2.2.2.2.2.2.2.2.2 ++ ((0 : Int) :: ([] : List Int))))))))))))))
      else
        none
  else
    some (.inr (x.2.2.2.2.1, (x.2.2.2.2.2.1, (x.2.2.2.2.2.2.1, (x.2.2.2.2.2.2.2.1, (x.2.2.2.2.2.2.2.2.1, (x.2.2.2.2.2.2.2.2.2.1, x.2.2.2.2.2.2.2.2.2.2)))))))
noncomputable def cx_plaitref09_of_4 : Ctx := { tb := mkTb T2.tbl, fx := [], sum := [], nt := 36, pin := 0, nr := true, ys := [] }
theorem L_plaitref09_of_4_ok : CSound Try.prog ⟨36, 0, true⟩ (.loop (loopOf 4 Try.f58)) (pieceSpec sh_plaitref09_of_4 es_plaitref09_of_4 (loop L_plaitref09_of_4)) :=
  loop_sound (C := cx_plaitref09_of_4) (ctxOK mixed tbl_ok rfl trivial trivial) (SumOK.of trivial) sh_plaitref09_of_4 es_plaitref09_of_4 rfl rfl L_plaitref09_of_4 (fun x => by kernel_rfl)
abbrev si_plaitref09_of : Shape := { sl := [(0, (.hole (.int .i64))), (1, (.hole (.int .i64))), (2, (.hole (.int .i64)))], bl := [], ts := [(.int .i64), (.int .i64), (.int .i64)], pin := 0 }
abbrev so_plaitref09_of : Shape := { sl := [(0, (.hole (.pair (.int .i64) (.pair (.int .i64) (.pair (.slice (.int .i64)) (.int .i64))))))], bl := [], ts := [(.pair (.int .i64) (.pair (.int .i64) (.pair (.slice (.int .i64)) (.int .i64))))], pin := 0 }
noncomputable def F_plaitref09_of (x : (Int × Int × Int)) : Option ((Int × (Int × (List (Int) × Int)))) :=
  ((loop L_plaitref09_of_4 (x.1, (x.2.1, (x.2.2, ((0 : Int), ((0 : Int), ((0 : Int), ((0 : Int), (x.1, ((0 : Int), ((0 : Int), ([] : List Int))))))))))))).bind fun r11 =>
  some (r11.2.2.2.1, (r11.2.2.2.2.1, (r11.2.2.2.2.2.2, r11.2.2.2.2.2.1)))
noncomputable def cx_plaitref09_of : Ctx := { tb := mkTb T2.tbl, fx := [], sum := [(0, 4, pieceSpec sh_plaitref09_of_4 es_plaitref09_of_4 (loop L_plaitref09_of_4))], nt := 36, pin := 0, nr := true, ys := [] }
theorem F_plaitref09_of_ok : Sound Try.prog 58 (Spec.shp si_plaitref09_of so_plaitref09_of F_plaitref09_of) :=
  Sound.shp (C := cx_plaitref09_of) (fn := Try.f58) (by kernel_rfl) (c := bodyOf Try.f58) (by kernel_rfl) (by decide) (ctxOK mixed tbl_ok rfl trivial trivial) (SumOK.of ⟨(pieces_one (d := .loop (loopOf 4 Try.f58)) (by kernel_rfl) L_plaitref09_of_4_ok), trivial⟩) (by kernel_rfl) si_plaitref09_of so_plaitref09_of rfl (by decide) (by decide) rfl (by decide) rfl F_plaitref09_of (fun x => by kernel_rfl)
abbrev si_plaitref09_move : Shape := { sl := [(0, (.hole (.pair (.int .i64) (.pair .bool (.pair (.pair (.int .i64) (.pair (.int .i64) (.pair (.slice (.int .i64)) (.int .i64)))) (.pair (.int .i64) (.pair (.int .i64) (.pair (.slice (.pair (.int .i64) (.pair (.int .i64) (.int .i64)))) (.slice (.pair (.int .i64) (.pair (.int .i64) (.int .i64)))))))))))), (1, (.hole (.int .i64))), (2, (.hole (.int .i64)))], bl := [], ts := [(.pair (.int .i64) (.pair .bool (.pair (.pair (.int .i64) (.pair (.int .i64) (.pair (.slice (.int .i64)) (.int .i64)))) (.pair (.int .i64) (.pair (.int .i64) (.pair (.slice (.pair (.int .i64) (.pair (.int .i64) (.int .i64)))) (.slice (.pair (.int .i64) (.pair (.int .i64) (.int .i64)))))))))), (.int .i64), (.int .i64)], pin := 0 }
abbrev so_plaitref09_move : Shape := { sl := [(0, (.hole (.pair (.int .i64) (.pair .bool (.pair (.pair (.int .i64) (.pair (.int .i64) (.pair (.slice (.int .i64)) (.int .i64)))) (.pair (.int .i64) (.pair (.int .i64) (.pair (.slice (.pair (.int .i64) (.pair (.int .i64) (.int .i64)))) (.slice (.pair (.int .i64) (.pair (.int .i64) (.int .i64))))))))))))], bl := [], ts := [(.pair (.int .i64) (.pair .bool (.pair (.pair (.int .i64) (.pair (.int .i64) (.pair (.slice (.int .i64)) (.int .i64)))) (.pair (.int .i64) (.pair (.int .i64) (.pair (.slice (.pair (.int .i64) (.pair (.int .i64) (.int .i64)))) (.slice (.pair (.int .i64) (.pair (.int .i64) (.int .i64))))))))))], pin := 0 }
noncomputable def F_plaitref09_move (x : ((Int × (Bool × ((Int × (Int × (List (Int) × Int))) × (Int × (Int × (List ((Int × (Int × Int))) × List ((Int × (Int × Int))))))))) × Int × Int)) : Option ((Int × (Bool × ((Int × (Int × (List (Int) × Int))) × (Int × (Int × (List ((Int × (Int × Int))) × List ((Int × (Int × Int)))))))))) :=
  ((F_plaitref09_of ((Max.max x.1.1 (0 : Int)), ((Go.IntKind.wrap Go.IntKind.i64 (x.1.2.2.2.2.1 + x.2.2)), (Go.IntKind.wrap Go.IntKind.i64 (x.1.2.2.2.1 + x.2.1)))))).bind fun r10 =>
  some (x.1.1, (x.1.2.1, (r10, ((Go.IntKind.wrap Go.IntKind.i64 (x.1.2.2.2.1 + x.2.1)), ((Go.IntKind.wrap Go.IntKind.i64 (x.1.2.2.2.2.1 + x.2.2)), x.1.2.2.2.2.2)))))
noncomputable def cx_plaitref09_move : Ctx := { tb := mkTb T2.tbl, fx := [(58, [], Spec.shp si_plaitref09_of so_plaitref09_of F_plaitref09_of)], sum := [], nt := 27, pin := 0, nr := true, ys := [] }
theorem F_plaitref09_move_ok : Sound Try.prog 41 (Spec.shp si_plaitref09_move so_plaitref09_move F_plaitref09_move) :=
  Sound.shp (C := cx_plaitref09_move) (fn := Try.f41) (by kernel_rfl) (c := bodyOf Try.f41) (by kernel_rfl) (by decide) (ctxOK mixed tbl_ok rfl ⟨F_plaitref09_of_ok, trivial⟩ trivial) (SumOK.of trivial) (by kernel_rfl) si_plaitref09_move so_plaitref09_move rfl (by decide) (by decide) rfl (by decide) rfl F_plaitref09_move (fun x => by kernel_rfl)
abbrev si_plaitref09_Push : Shape := { sl := [(0, (.hole (.slice (.pair (.int .i64) (.pair (.int .i64) (.int .i64)))))), (1, (.hole (.pair (.int .i64) (.pair (.int .i64) (.int .i64)))))], bl := [], ts := [(.slice (.pair (.int .i64) (.pair (.int .i64) (.int .i64)))), (.pair (.int .i64) (.pair (.int .i64) (.int .i64)))], pin := 0 }
abbrev so_plaitref09_Push : Shape := { sl := [(0, (.hole (.slice (.pair (.int .i64) (.pair (.int .i64) (.int .i64)))))), (1, (.hole (.int .i64)))], bl := [], ts := [(.slice (.pair (.int .i64) (.pair (.int .i64) (.int .i64)))), (.int .i64)], pin := 0 }
noncomputable def F_plaitref09_Push (x : (List ((Int × (Int × Int))) × (Int × (Int × Int)))) : Option (List ((Int × (Int × Int))) × Int) :=
  ((F_plaitref05_Has (x.1, (x.2.1, x.2.2.1)))).bind fun r10 =>
  bif r10 then
    some (([] : List (Int × (Int × Int))), (7 : Int))
  else
    bif ((((List.length x.1) : Nat) : Int) == (64 : Int)) then
      some (([] : List (Int × (Int × Int))), (5 : Int))
    else
      bif (Go.Proofs.Ytgnellpcphepjaa.VX.fits ((List.length ([] : List (Int × (Int × Int)))) + (List.length x.1))) then
        bif (Go.Proofs.Ytgnellpcphepjaa.VX.fits ((List.length (([] : List (Int × (Int × Int))) ++ x.1)) + (List.length (x.2 :: ([] : List (Int × (Int × Int))))))) then
          some (((([] : List (Int × (Int × Int))) ++ x.1) ++ (x.2 :: ([] : List (Int × (Int × Int))))), (0 : Int))
        else
          none
      else
        none
noncomputable def cx_plaitref09_Push : Ctx := { tb := mkTb T2.tbl, fx := [(57, [], Spec.shp si_plaitref05_Has so_plaitref05_Has F_plaitref05_Has)], sum := [], nt := 24, pin := 0, nr := true, ys := [] }
theorem F_plaitref09_Push_ok : Sound Try.prog 42 (Spec.shp si_plaitref09_Push so_plaitref09_Push F_plaitref09_Push) :=
  Sound.shp (C := cx_plaitref09_Push) (fn := Try.f42) (by kernel_rfl) (c := bodyOf Try.f42) (by kernel_rfl) (by decide) (ctxOK mixed tbl_ok rfl ⟨F_plaitref05_Has_ok, trivial⟩ trivial) (SumOK.of trivial) (by kernel_rfl) si_plaitref09_Push so_plaitref09_Push rfl (by decide) (by decide) rfl (by decide) rfl F_plaitref09_Push (fun x => by kernel_rfl)
abbrev si_plaitref09_Send : Shape := { sl := [(0, (.hole (.pair (.int .i64) (.pair .bool (.pair (.pair (.int .i64) (.pair (.int .i64) (.pair (.slice (.int .i64)) (.int .i64)))) (.pair (.int .i64) (.pair (.int .i64) (.pair (.slice (.pair (.int .i64) (.pair (.int .i64) (.int .i64)))) (.slice (.pair (.int .i64) (.pair (.int .i64) (.int .i64)))))))))))), (1, (.hole (.pair (.int .i64) (.pair (.int .i64) (.int .i64)))))], bl := [], ts := [(.pair (.int .i64) (.pair .bool (.pair (.pair (.int .i64) (.pair (.int .i64) (.pair (.slice (.int .i64)) (.int .i64)))) (.pair (.int .i64) (.pair (.int .i64) (.pair (.slice (.pair (.int .i64) (.pair (.int .i64) (.int .i64)))) (.slice (.pair (.int .i64) (.pair (.int .i64) (.int .i64)))))))))), (.pair (.int .i64) (.pair (.int .i64) (.int .i64)))], pin := 0 }
abbrev so_plaitref09_Send : Shape := { sl := [(0, (.hole (.pair (.int .i64) (.pair .bool (.pair (.pair (.int .i64) (.pair (.int .i64) (.pair (.slice (.int .i64)) (.int .i64)))) (.pair (.int .i64) (.pair (.int .i64) (.pair (.slice (.pair (.int .i64) (.pair (.int .i64) (.int .i64)))) (.slice (.pair (.int .i64) (.pair (.int .i64) (.int .i64)))))))))))), (1, (.hole (.pair (.int .i64) (.pair (.int .i64) (.pair (.pair (.int .i64) (.pair (.int .i64) (.int .i64))) (.int .i64)))))), (2, (.hole (.int .i64)))], bl := [], ts := [(.pair (.int .i64) (.pair .bool (.pair (.pair (.int .i64) (.pair (.int .i64) (.pair (.slice (.int .i64)) (.int .i64)))) (.pair (.int .i64) (.pair (.int .i64) (.pair (.slice (.pair (.int .i64) (.pair (.int .i64) (.int .i64)))) (.slice (.pair (.int .i64) (.pair (.int .i64) (.int .i64)))))))))), (.pair (.int .i64) (.pair (.int .i64) (.pair (.pair (.int .i64) (.pair (.int .i64) (.int .i64))) (.int .i64)))), (.int .i64)], pin := 0 }
noncomputable def F_plaitref09_Send (x : ((Int × (Bool × ((Int × (Int × (List (Int) × Int))) × (Int × (Int × (List ((Int × (Int × Int))) × List ((Int × (Int × Int))))))))) × (Int × (Int × Int)))) : Option ((Int × (Bool × ((Int × (Int × (List (Int) × Int))) × (Int × (Int × (List ((Int × (Int × Int))) × List ((Int × (Int × Int))))))))) × (Int × (Int × ((Int × (Int × Int)) × Int))) × Int) :=
  ((F_plaitref09_nobody ())).bind fun r7 =>
  bif (x.1.1 == (Int.negSucc 0)) then
    some (x.1, (((0 : Int), ((0 : Int), (r7, (0 : Int)))), (0 : Int)))
  else
    bif x.1.2.1 then
      some (x.1, (((3 : Int), ((0 : Int), (r7, (0 : Int)))), (0 : Int)))
    else
      ((F_plaitref05_First (x.1.2.2.2.2.2.2, x.2.1))).bind fun r8 =>
      bif (decide (r8 ≥ (0 : Int))) then
        bif (x.1.2.2.2.1 == (1048576 : Int)) then
          some (((0 : Int), (false, (((0 : Int), ((0 : Int), (([] : List Int), (0 : Int)))), ((0 : Int), ((0 : Int), (([] : List (Int × (Int × Int))), ([] : List (Int × (Int × Int))))))))), (((0 : Int), ((0 : Int), (((0 : Int), ((0 : Int), (0 : Int))), (0 : Int)))), (5 : Int)))
        else
          bif (decide (r8 < (0 : Int))) then
            ((F_plaitref09_move (x.1, ((1 : Int), (0 : Int))))).bind fun r9 =>
            some (r9, (((1 : Int), (x.1.2.2.2.1, (r7, (0 : Int)))), (0 : Int)))
          else
            bif (Go.Proofs.Ytgnellpcphepjaa.VX.inb r8 (List.length x.1.2.2.2.2.2.2)) then
              ((F_plaitref09_Leave (x.1, (Go.Proofs.Ytgnellpcphepjaa.VX.getAt ((0 : Int), ((0 : Int), (0 : Int))) x.1.2.2.2.2.2.2 (Go.Proofs.Ytgnellpcphepjaa.VX.toN r8)).1))).bind fun r9 =>
              ((F_plaitref09_move (r9, ((1 : Int), (1 : Int))))).bind fun r10 =>
              some (r10, (((1 : Int), (x.1.2.2.2.1, ((Go.Proofs.Ytgnellpcphepjaa.VX.getAt ((0 : Int), ((0 : Int), (0 : Int))) x.1.2.2.2.2.2.2 (Go.Proofs.Ytgnellpcphepjaa.VX.toN r8)), x.1.2.2.2.1))), (0 : Int)))
            else
              none
      else
        bif (decide (x.1.2.2.1.2.2.2 < x.1.1)) then
          bif (x.1.2.2.2.1 == (1048576 : Int)) then
            some (((0 : Int), (false, (((0 : Int), ((0 : Int), (([] : List Int), (0 : Int)))), ((0 : Int), ((0 : Int), (([] : List (Int × (Int × Int))), ([] : List (Int × (Int × Int))))))))), (((0 : Int), ((0 : Int), (((0 : Int), ((0 : Int), (0 : Int))), (0 : Int)))), (5 : Int)))
          else
            bif (decide (r8 < (0 : Int))) then
              ((F_plaitref09_move (x.1, ((1 : Int), (0 : Int))))).bind fun r9 =>
              some (r9, (((1 : Int), (x.1.2.2.2.1, (r7, (0 : Int)))), (0 : Int)))
            else
              bif (Go.Proofs.Ytgnellpcphepjaa.VX.inb r8 (List.length x.1.2.2.2.2.2.2)) then
                ((F_plaitref09_Leave (x.1, (Go.Proofs.Ytgnellpcphepjaa.VX.getAt ((0 : Int), ((0 : Int), (0 : Int))) x.1.2.2.2.2.2.2 (Go.Proofs.Ytgnellpcphepjaa.VX.toN r8)).1))).bind fun r9 =>
                ((F_plaitref09_move (r9, ((1 : Int), (1 : Int))))).bind fun r10 =>
                some (r10, (((1 : Int), (x.1.2.2.2.1, ((Go.Proofs.Ytgnellpcphepjaa.VX.getAt ((0 : Int), ((0 : Int), (0 : Int))) x.1.2.2.2.2.2.2 (Go.Proofs.Ytgnellpcphepjaa.VX.toN r8)), x.1.2.2.2.1))), (0 : Int)))
              else
                none
        else
          ((F_plaitref09_Push (x.1.2.2.2.2.2.1, x.2))).bind fun r9 =>
          bif (r9.2 != (0 : Int)) then
            some (((0 : Int), (false, (((0 : Int), ((0 : Int), (([] : List Int), (0 : Int)))), ((0 : Int), ((0 : Int), (([] : List (Int × (Int × Int))), ([] : List (Int × (Int × Int))))))))), (((0 : Int), ((0 : Int), (((0 : Int), ((0 : Int), (0 : Int))), (0 : Int)))), r9.2))
          else
            some ((x.1.1, (x.1.2.1, (x.1.2.2.1, (x.1.2.2.2.1, (x.1.2.2.2.2.1, (r9.1, x.1.2.2.2.2.2.2)))))), (((0 : Int), ((0 : Int), (r7, (0 : Int)))), (0 : Int)))
noncomputable def cx_plaitref09_Send : Ctx := { tb := mkTb T2.tbl, fx := [(39, [], Spec.shp si_plaitref09_nobody so_plaitref09_nobody F_plaitref09_nobody), (40, [], Spec.shp si_plaitref05_First so_plaitref05_First F_plaitref05_First), (41, [], Spec.shp si_plaitref09_move so_plaitref09_move F_plaitref09_move), (27, [], Spec.shp si_plaitref09_Leave so_plaitref09_Leave F_plaitref09_Leave), (42, [], Spec.shp si_plaitref09_Push so_plaitref09_Push F_plaitref09_Push)], sum := [], nt := 84, pin := 0, nr := true, ys := [] }
theorem F_plaitref09_Send_ok : Sound Try.prog 14 (Spec.shp si_plaitref09_Send so_plaitref09_Send F_plaitref09_Send) :=
  Sound.shp (C := cx_plaitref09_Send) (fn := Try.f14) (by kernel_rfl) (c := bodyOf Try.f14) (by kernel_rfl) (by decide) (ctxOK mixed tbl_ok rfl ⟨F_plaitref09_nobody_ok, F_plaitref05_First_ok, F_plaitref09_move_ok, F_plaitref09_Leave_ok, F_plaitref09_Push_ok, trivial⟩ trivial) (SumOK.of trivial) (by kernel_rfl) si_plaitref09_Send so_plaitref09_Send rfl (by decide) (by decide) rfl (by decide) rfl F_plaitref09_Send (fun x => by kernel_rfl)
abbrev si_plaitref09_Recv : Shape := { sl := [(0, (.hole (.pair (.int .i64) (.pair .bool (.pair (.pair (.int .i64) (.pair (.int .i64) (.pair (.slice (.int .i64)) (.int .i64)))) (.pair (.int .i64) (.pair (.int .i64) (.pair (.slice (.pair (.int .i64) (.pair (.int .i64) (.int .i64)))) (.slice (.pair (.int .i64) (.pair (.int .i64) (.int .i64)))))))))))), (1, (.hole (.pair (.int .i64) (.pair (.int .i64) (.int .i64)))))], bl := [], ts := [(.pair (.int .i64) (.pair .bool (.pair (.pair (.int .i64) (.pair (.int .i64) (.pair (.slice (.int .i64)) (.int .i64)))) (.pair (.int .i64) (.pair (.int .i64) (.pair (.slice (.pair (.int .i64) (.pair (.int .i64) (.int .i64)))) (.slice (.pair (.int .i64) (.pair (.int .i64) (.int .i64)))))))))), (.pair (.int .i64) (.pair (.int .i64) (.int .i64)))], pin := 0 }
abbrev so_plaitref09_Recv : Shape := { sl := [(0, (.hole (.pair (.int .i64) (.pair .bool (.pair (.pair (.int .i64) (.pair (.int .i64) (.pair (.slice (.int .i64)) (.int .i64)))) (.pair (.int .i64) (.pair (.int .i64) (.pair (.slice (.pair (.int .i64) (.pair (.int .i64) (.int .i64)))) (.slice (.pair (.int .i64) (.pair (.int .i64) (.int .i64)))))))))))), (1, (.hole (.pair (.int .i64) (.pair (.int .i64) (.pair (.pair (.int .i64) (.pair (.int .i64) (.int .i64))) (.int .i64)))))), (2, (.hole (.int .i64)))], bl := [], ts := [(.pair (.int .i64) (.pair .bool (.pair (.pair (.int .i64) (.pair (.int .i64) (.pair (.slice (.int .i64)) (.int .i64)))) (.pair (.int .i64) (.pair (.int .i64) (.pair (.slice (.pair (.int .i64) (.pair (.int .i64) (.int .i64)))) (.slice (.pair (.int .i64) (.pair (.int .i64) (.int .i64)))))))))), (.pair (.int .i64) (.pair (.int .i64) (.pair (.pair (.int .i64) (.pair (.int .i64) (.int .i64))) (.int .i64)))), (.int .i64)], pin := 0 }
noncomputable def F_plaitref09_Recv (x : ((Int × (Bool × ((Int × (Int × (List (Int) × Int))) × (Int × (Int × (List ((Int × (Int × Int))) × List ((Int × (Int × Int))))))))) × (Int × (Int × Int)))) : Option ((Int × (Bool × ((Int × (Int × (List (Int) × Int))) × (Int × (Int × (List ((Int × (Int × Int))) × List ((Int × (Int × Int))))))))) × (Int × (Int × ((Int × (Int × Int)) × Int))) × Int) :=
  ((F_plaitref09_nobody ())).bind fun r8 =>
  bif (x.1.1 == (Int.negSucc 0)) then
    some (x.1, (((0 : Int), ((0 : Int), (r8, (0 : Int)))), (0 : Int)))
  else
    ((F_plaitref05_First (x.1.2.2.2.2.2.1, x.2.1))).bind fun r9 =>
    bif (decide (r9 ≥ (0 : Int))) then
      bif (x.1.2.2.2.1 == (1048576 : Int)) then
        some (((0 : Int), (false, (((0 : Int), ((0 : Int), (([] : List Int), (0 : Int)))), ((0 : Int), ((0 : Int), (([] : List (Int × (Int × Int))), ([] : List (Int × (Int × Int))))))))), (((0 : Int), ((0 : Int), (((0 : Int), ((0 : Int), (0 : Int))), (0 : Int)))), (5 : Int)))
      else
        bif (decide (x.1.2.2.1.2.2.2 > (0 : Int))) then
          bif (decide (r9 < (0 : Int))) then
            ((F_plaitref09_move (x.1, ((0 : Int), (1 : Int))))).bind fun r10 =>
            some (r10, (((1 : Int), (x.1.2.2.2.2.1, (r8, (0 : Int)))), (0 : Int)))
          else
            bif (Go.Proofs.Ytgnellpcphepjaa.VX.inb r9 (List.length x.1.2.2.2.2.2.1)) then
              ((F_plaitref09_Leave (x.1, (Go.Proofs.Ytgnellpcphepjaa.VX.getAt ((0 : Int), ((0 : Int), (0 : Int))) x.1.2.2.2.2.2.1 (Go.Proofs.Ytgnellpcphepjaa.VX.toN r9)).1))).bind fun r10 =>
              ((F_plaitref09_move (r10, ((1 : Int), (1 : Int))))).bind fun r11 =>
              some (r11, (((1 : Int), (x.1.2.2.2.2.1, ((Go.Proofs.Ytgnellpcphepjaa.VX.getAt ((0 : Int), ((0 : Int), (0 : Int))) x.1.2.2.2.2.2.1 (Go.Proofs.Ytgnellpcphepjaa.VX.toN r9)), x.1.2.2.2.1))), (0 : Int)))
            else
              none
        else
          bif (decide (r9 ≥ (0 : Int))) then
            bif (decide (r9 < (0 : Int))) then
              ((F_plaitref09_move (x.1, ((0 : Int), (1 : Int))))).bind fun r10 =>
              some (r10, (((1 : Int), (x.1.2.2.2.2.1, (r8, (0 : Int)))), (0 : Int)))
            else
              bif (Go.Proofs.Ytgnellpcphepjaa.VX.inb r9 (List.length x.1.2.2.2.2.2.1)) then
                ((F_plaitref09_Leave (x.1, (Go.Proofs.Ytgnellpcphepjaa.VX.getAt ((0 : Int), ((0 : Int), (0 : Int))) x.1.2.2.2.2.2.1 (Go.Proofs.Ytgnellpcphepjaa.VX.toN r9)).1))).bind fun r10 =>
                ((F_plaitref09_move (r10, ((1 : Int), (1 : Int))))).bind fun r11 =>
                some (r11, (((1 : Int), (x.1.2.2.2.2.1, ((Go.Proofs.Ytgnellpcphepjaa.VX.getAt ((0 : Int), ((0 : Int), (0 : Int))) x.1.2.2.2.2.2.1 (Go.Proofs.Ytgnellpcphepjaa.VX.toN r9)), x.1.2.2.2.1))), (0 : Int)))
              else
                none
          else
            bif x.1.2.1 then
              some (x.1, (((2 : Int), ((0 : Int), (r8, (0 : Int)))), (0 : Int)))
            else
              ((F_plaitref09_Push (x.1.2.2.2.2.2.2, x.2))).bind fun r10 =>
              bif (r10.2 != (0 : Int)) then
                some (((0 : Int), (false, (((0 : Int), ((0 : Int), (([] : List Int), (0 : Int)))), ((0 : Int), ((0 : Int), (([] : List (Int × (Int × Int))), ([] : List (Int × (Int × Int))))))))), (((0 : Int), ((0 : Int), (((0 : Int), ((0 : Int), (0 : Int))), (0 : Int)))), r10.2))
              else
                some ((x.1.1, (x.1.2.1, (x.1.2.2.1, (x.1.2.2.2.1, (x.1.2.2.2.2.1, (x.1.2.2.2.2.2.1, r10.1)))))), (((0 : Int), ((0 : Int), (r8, (0 : Int)))), (0 : Int)))
    else
      bif (decide (x.1.2.2.1.2.2.2 > (0 : Int))) then
        bif (decide (r9 < (0 : Int))) then
          ((F_plaitref09_move (x.1, ((0 : Int), (1 : Int))))).bind fun r10 =>
          some (r10, (((1 : Int), (x.1.2.2.2.2.1, (r8, (0 : Int)))), (0 : Int)))
        else
          bif (Go.Proofs.Ytgnellpcphepjaa.VX.inb r9 (List.length x.1.2.2.2.2.2.1)) then
            ((F_plaitref09_Leave (x.1, (Go.Proofs.Ytgnellpcphepjaa.VX.getAt ((0 : Int), ((0 : Int), (0 : Int))) x.1.2.2.2.2.2.1 (Go.Proofs.Ytgnellpcphepjaa.VX.toN r9)).1))).bind fun r10 =>
            ((F_plaitref09_move (r10, ((1 : Int), (1 : Int))))).bind fun r11 =>
            some (r11, (((1 : Int), (x.1.2.2.2.2.1, ((Go.Proofs.Ytgnellpcphepjaa.VX.getAt ((0 : Int), ((0 : Int), (0 : Int))) x.1.2.2.2.2.2.1 (Go.Proofs.Ytgnellpcphepjaa.VX.toN r9)), x.1.2.2.2.1))), (0 : Int)))
          else
            none
      else
        bif (decide (r9 ≥ (0 : Int))) then
          bif (decide (r9 < (0 : Int))) then
            ((F_plaitref09_move (x.1, ((0 : Int), (1 : Int))))).bind fun r10 =>
            some (r10, (((1 : Int), (x.1.2.2.2.2.1, (r8, (0 : Int)))), (0 : Int)))
          else
            bif (Go.Proofs.Ytgnellpcphepjaa.VX.inb r9 (List.length x.1.2.2.2.2.2.1)) then
              ((F_plaitref09_Leave (x.1, (Go.Proofs.Ytgnellpcphepjaa.VX.getAt ((0 : Int), ((0 : Int), (0 : Int))) x.1.2.2.2.2.2.1 (Go.Proofs.Ytgnellpcphepjaa.VX.toN r9)).1))).bind fun r10 =>
              ((F_plaitref09_move (r10, ((1 : Int), (1 : Int))))).bind fun r11 =>
              some (r11, (((1 : Int), (x.1.2.2.2.2.1, ((Go.Proofs.Ytgnellpcphepjaa.VX.getAt ((0 : Int), ((0 : Int), (0 : Int))) x.1.2.2.2.2.2.1 (Go.Proofs.Ytgnellpcphepjaa.VX.toN r9)), x.1.2.2.2.1))), (0 : Int)))
            else
              none
        else
          bif x.1.2.1 then
            some (x.1, (((2 : Int), ((0 : Int), (r8, (0 : Int)))), (0 : Int)))
          else
            ((F_plaitref09_Push (x.1.2.2.2.2.2.2, x.2))).bind fun r10 =>
            bif (r10.2 != (0 : Int)) then
              some (((0 : Int), (false, (((0 : Int), ((0 : Int), (([] : List Int), (0 : Int)))), ((0 : Int), ((0 : Int), (([] : List (Int × (Int × Int))), ([] : List (Int × (Int × Int))))))))), (((0 : Int), ((0 : Int), (((0 : Int), ((0 : Int), (0 : Int))), (0 : Int)))), r10.2))
            else
              some ((x.1.1, (x.1.2.1, (x.1.2.2.1, (x.1.2.2.2.1, (x.1.2.2.2.2.1, (x.1.2.2.2.2.2.1, r10.1)))))), (((0 : Int), ((0 : Int), (r8, (0 : Int)))), (0 : Int)))
noncomputable def cx_plaitref09_Recv : Ctx := { tb := mkTb T2.tbl, fx := [(39, [], Spec.shp si_plaitref09_nobody so_plaitref09_nobody F_plaitref09_nobody), (40, [], Spec.shp si_plaitref05_First so_plaitref05_First F_plaitref05_First), (41, [], Spec.shp si_plaitref09_move so_plaitref09_move F_plaitref09_move), (27, [], Spec.shp si_plaitref09_Leave so_plaitref09_Leave F_plaitref09_Leave), (42, [], Spec.shp si_plaitref09_Push so_plaitref09_Push F_plaitref09_Push)], sum := [], nt := 86, pin := 0, nr := true, ys := [] }
theorem F_plaitref09_Recv_ok : Sound Try.prog 15 (Spec.shp si_plaitref09_Recv so_plaitref09_Recv F_plaitref09_Recv) :=
  Sound.shp (C := cx_plaitref09_Recv) (fn := Try.f15) (by kernel_rfl) (c := bodyOf Try.f15) (by kernel_rfl) (by decide) (ctxOK mixed tbl_ok rfl ⟨F_plaitref09_nobody_ok, F_plaitref05_First_ok, F_plaitref09_move_ok, F_plaitref09_Leave_ok, F_plaitref09_Push_ok, trivial⟩ trivial) (SumOK.of trivial) (by kernel_rfl) si_plaitref09_Recv so_plaitref09_Recv rfl (by decide) (by decide) rfl (by decide) rfl F_plaitref09_Recv (fun x => by kernel_rfl)
noncomputable def F_plaitlaw09_ChansPass (x : ((Int × (Bool × ((Int × (Int × (List (Int) × Int))) × (Int × (Int × (List ((Int × (Int × Int))) × List ((Int × (Int × Int))))))))) × (Int × (Int × Int)))) : Option (Bool) :=
  ((F_plaitlaw09_few x.1)).bind fun r1 =>
  ((F_chans_Send (r1, x.2))).bind fun r2 =>
  ((F_chans_Recv (r1, x.2))).bind fun r3 =>
  ((F_plaitref09_Right r1)).bind fun r4 =>
  bif (Bool.not r4) then
    ((F_plaitlaw09_alive ())).bind fun r5 =>
    bif r5 then
      bif (r2.2.2 == (1 : Int)) then
        bif (r3.2.2 == (1 : Int)) then
          bif ((r2.2.1.1 == ((0 : Int), ((0 : Int), (((0 : Int), ((0 : Int), (0 : Int))), (0 : Int)))).1) && ((r2.2.1.2.1 == ((0 : Int), ((0 : Int), (((0 : Int), ((0 : Int), (0 : Int))), (0 : Int)))).2.1) && (((r2.2.1.2.2.1.1 == ((0 : Int), ((0 : Int), (((0 : Int), ((0 : Int), (0 : Int))), (0 : Int)))).2.2.1.1) && ((r2.2.1.2.2.1.2.1 == ((0 : Int), ((0 : Int), (((0 : Int), ((0 : Int), (0 : Int))), (0 : Int)))).2.2.1.2.1) && (r2.2.1.2.2.1.2.2 == ((0 : Int), ((0 : Int), (((0 : Int), ((0 : Int), (0 : Int))), (0 : Int)))).2.2.1.2.2))) && (r2.2.1.2.2.2 == ((0 : Int), ((0 : Int), (((0 : Int), ((0 : Int), (0 : Int))), (0 : Int)))).2.2.2)))) then
            bif ((r3.2.1.1 == ((0 : Int), ((0 : Int), (((0 : Int), ((0 : Int), (0 : Int))), (0 : Int)))).1) && ((r3.2.1.2.1 == ((0 : Int), ((0 : Int), (((0 : Int), ((0 : Int), (0 : Int))), (0 : Int)))).2.1) && (((r3.2.1.2.2.1.1 == ((0 : Int), ((0 : Int), (((0 : Int), ((0 : Int), (0 : Int))), (0 : Int)))).2.2.1.1) && ((r3.2.1.2.2.1.2.1 == ((0 : Int), ((0 : Int), (((0 : Int), ((0 : Int), (0 : Int))), (0 : Int)))).2.2.1.2.1) && (r3.2.1.2.2.1.2.2 == ((0 : Int), ((0 : Int), (((0 : Int), ((0 : Int), (0 : Int))), (0 : Int)))).2.2.1.2.2))) && (r3.2.1.2.2.2 == ((0 : Int), ((0 : Int), (((0 : Int), ((0 : Int), (0 : Int))), (0 : Int)))).2.2.2)))) then
              ((F_plaitlaw09_empty r2.1)).bind fun r6 =>
              bif r6 then
                ((F_plaitlaw09_empty r3.1)).bind fun r7 =>
                some r7
              else
                some false
            else
              some false
          else
            some false
        else
          some false
      else
        some false
    else
      some false
  else
    ((F_plaitref05_May x.2)).bind fun r5 =>
    bif (Bool.not r5) then
      ((F_plaitlaw09_alive ())).bind fun r6 =>
      bif r6 then
        bif (r2.2.2 == (1 : Int)) then
          bif (r3.2.2 == (1 : Int)) then
            bif ((r2.2.1.1 == ((0 : Int), ((0 : Int), (((0 : Int), ((0 : Int), (0 : Int))), (0 : Int)))).1) && ((r2.2.1.2.1 == ((0 : Int), ((0 : Int), (((0 : Int), ((0 : Int), (0 : Int))), (0 : Int)))).2.1) && (((r2.2.1.2.2.1.1 == ((0 : Int), ((0 : Int), (((0 : Int), ((0 : Int), (0 : Int))), (0 : Int)))).2.2.1.1) && ((r2.2.1.2.2.1.2.1 == ((0 : Int), ((0 : Int), (((0 : Int), ((0 : Int), (0 : Int))), (0 : Int)))).2.2.1.2.1) && (r2.2.1.2.2.1.2.2 == ((0 : Int), ((0 : Int), (((0 : Int), ((0 : Int), (0 : Int))), (0 : Int)))).2.2.1.2.2))) && (r2.2.1.2.2.2 == ((0 : Int), ((0 : Int), (((0 : Int), ((0 : Int), (0 : Int))), (0 : Int)))).2.2.2)))) then
              bif ((r3.2.1.1 == ((0 : Int), ((0 : Int), (((0 : Int), ((0 : Int), (0 : Int))), (0 : Int)))).1) && ((r3.2.1.2.1 == ((0 : Int), ((0 : Int), (((0 : Int), ((0 : Int), (0 : Int))), (0 : Int)))).2.1) && (((r3.2.1.2.2.1.1 == ((0 : Int), ((0 : Int), (((0 : Int), ((0 : Int), (0 : Int))), (0 : Int)))).2.2.1.1) && ((r3.2.1.2.2.1.2.1 == ((0 : Int), ((0 : Int), (((0 : Int), ((0 : Int), (0 : Int))), (0 : Int)))).2.2.1.2.1) && (r3.2.1.2.2.1.2.2 == ((0 : Int), ((0 : Int), (((0 : Int), ((0 : Int), (0 : Int))), (0 : Int)))).2.2.1.2.2))) && (r3.2.1.2.2.2 == ((0 : Int), ((0 : Int), (((0 : Int), ((0 : Int), (0 : Int))), (0 : Int)))).2.2.2)))) then
                ((F_plaitlaw09_empty r2.1)).bind fun r7 =>
                bif r7 then
                  ((F_plaitlaw09_empty r3.1)).bind fun r8 =>
                  some r8
                else
                  some false
              else
                some false
            else
              some false
          else
            some false
        else
          some false
      else
        some false
    else
      ((F_plaitref09_Send (r1, x.2))).bind fun r6 =>
      ((F_plaitref09_Recv (r1, x.2))).bind fun r7 =>
      bif (r2.2.2 != r6.2.2) then
        some false
      else
        bif (r3.2.2 != r7.2.2) then
          some false
        else
          bif (Bool.not ((r2.2.1.1 == r6.2.1.1) && ((r2.2.1.2.1 == r6.2.1.2.1) && (((r2.2.1.2.2.1.1 == r6.2.1.2.2.1.1) && ((r2.2.1.2.2.1.2.1 == r6.2.1.2.2.1.2.1) && (r2.2.1.2.2.1.2.2 == r6.2.1.2.2.1.2.2))) && (r2.2.1.2.2.2 == r6.2.1.2.2.2))))) then
            some false
          else
            bif (Bool.not ((r3.2.1.1 == r7.2.1.1) && ((r3.2.1.2.1 == r7.2.1.2.1) && (((r3.2.1.2.2.1.1 == r7.2.1.2.2.1.1) && ((r3.2.1.2.2.1.2.1 == r7.2.1.2.2.1.2.1) && (r3.2.1.2.2.1.2.2 == r7.2.1.2.2.1.2.2))) && (r3.2.1.2.2.2 == r7.2.1.2.2.2))))) then
              some false
            else
              ((F_plaitlaw09_alive ())).bind fun r8 =>
              bif (Bool.not r8) then
                some false
              else
                bif (r2.2.2 != (0 : Int)) then
                  ((F_plaitlaw09_empty r2.1)).bind fun r9 =>
                  bif r9 then
                    bif (r3.2.2 != (0 : Int)) then
                      ((F_plaitlaw09_empty r3.1)).bind fun r10 =>
                      bif r10 then
                        some true
                      else
                        bif (r3.2.2 == (0 : Int)) then
                          ((F_plaitref09_Same (r3.1, r7.1))).bind fun r11 =>
                          some r11
                        else
                          some false
                    else
                      bif (r3.2.2 == (0 : Int)) then
                        ((F_plaitref09_Same (r3.1, r7.1))).bind fun r10 =>
                        some r10
                      else
                        some false
                  else
                    bif (r2.2.2 == (0 : Int)) then
                      ((F_plaitref09_Same (r2.1, r6.1))).bind fun r10 =>
                      bif r10 then
                        bif (r3.2.2 != (0 : Int)) then
                          ((F_plaitlaw09_empty r3.1)).bind fun r11 =>
                          bif r11 then
                            some true
                          else
                            bif (r3.2.2 == (0 : Int)) then
                              ((F_plaitref09_Same (r3.1, r7.1))).bind fun r12 =>
                              some r12
                            else
                              some false
                        else
                          bif (r3.2.2 == (0 : Int)) then
                            ((F_plaitref09_Same (r3.1, r7.1))).bind fun r11 =>
                            some r11
                          else
                            some false
                      else
                        some false
                    else
                      some false
                else
                  bif (r2.2.2 == (0 : Int)) then
                    ((F_plaitref09_Same (r2.1, r6.1))).bind fun r9 =>
                    bif r9 then
                      bif (r3.2.2 != (0 : Int)) then
                        ((F_plaitlaw09_empty r3.1)).bind fun r10 =>
                        bif r10 then
                          some true
                        else
                          bif (r3.2.2 == (0 : Int)) then
                            ((F_plaitref09_Same (r3.1, r7.1))).bind fun r11 =>
                            some r11
                          else
                            some false
                      else
                        bif (r3.2.2 == (0 : Int)) then
                          ((F_plaitref09_Same (r3.1, r7.1))).bind fun r10 =>
                          some r10
                        else
                          some false
                    else
                      some false
                  else
                    some false
noncomputable def cx_plaitlaw09_ChansPass : Ctx := { tb := mkTb T2.tbl, fx := [(7, [], Spec.shp si_plaitlaw09_few so_plaitlaw09_few F_plaitlaw09_few), (8, [], Spec.shp si_chans_Send so_chans_Send F_chans_Send), (9, [], Spec.shp si_chans_Recv so_chans_Recv F_chans_Recv), (10, [], Spec.shp si_plaitref09_Right so_plaitref09_Right F_plaitref09_Right), (12, [], Spec.shp si_plaitlaw09_alive so_plaitlaw09_alive F_plaitlaw09_alive), (13, [], Spec.shp si_plaitlaw09_empty so_plaitlaw09_empty F_plaitlaw09_empty), (11, [], Spec.shp si_plaitref05_May so_plaitref05_May F_plaitref05_May), (14, [], Spec.shp si_plaitref09_Send so_plaitref09_Send F_plaitref09_Send), (15, [], Spec.shp si_plaitref09_Recv so_plaitref09_Recv F_plaitref09_Recv), (16, [], Spec.shp si_plaitref09_Same so_plaitref09_Same F_plaitref09_Same)], sum := [], nt := 138, pin := 0, nr := true, ys := [] }
theorem F_plaitlaw09_ChansPass_ok : Sound Try.prog 3 (Spec.pure [(.pair (.int .i64) (.pair .bool (.pair (.pair (.int .i64) (.pair (.int .i64) (.pair (.slice (.int .i64)) (.int .i64)))) (.pair (.int .i64) (.pair (.int .i64) (.pair (.slice (.pair (.int .i64) (.pair (.int .i64) (.int .i64)))) (.slice (.pair (.int .i64) (.pair (.int .i64) (.int .i64)))))))))), (.pair (.int .i64) (.pair (.int .i64) (.int .i64)))] [.bool] F_plaitlaw09_ChansPass) :=
  Sound.pure (C := cx_plaitlaw09_ChansPass) (fn := Try.f3) (by kernel_rfl) (c := bodyOf Try.f3) (by kernel_rfl) (by decide) (ctxOK mixed tbl_ok rfl ⟨F_plaitlaw09_few_ok, F_chans_Send_ok, F_chans_Recv_ok, F_plaitref09_Right_ok, F_plaitlaw09_alive_ok, F_plaitlaw09_empty_ok, F_plaitref05_May_ok, F_plaitref09_Send_ok, F_plaitref09_Recv_ok, F_plaitref09_Same_ok, trivial⟩) (SumOK.of trivial) (by kernel_rfl) rfl _ _ (by decide) _ (fun x => by kernel_rfl)
abbrev sh_plaitlaw09_ChansCloses_10 : Shape := { sl := [(1, (.hole (.int .i64))), (2, (.hole (.int .i64))), (3, (.ptr 0 [])), (7, (.ptr 1 [])), (11, (.hole (.int .i64)))], bl := [.var (.hole (.pair (.int .i64) (.pair .bool (.pair (.pair (.int .i64) (.pair (.int .i64) (.pair (.slice (.int .i64)) (.int .i64)))) (.pair (.int .i64) (.pair (.int .i64) (.pair (.slice (.pair (.int .i64) (.pair (.int .i64) (.int .i64)))) (.slice (.pair (.int .i64) (.pair (.int .i64) (.int .i64))))))))))), .var (.hole (.pair (.int .i64) (.pair .bool (.pair (.pair (.int .i64) (.pair (.int .i64) (.pair (.slice (.int .i64)) (.int .i64)))) (.pair (.int .i64) (.pair (.int .i64) (.pair (.slice (.pair (.int .i64) (.pair (.int .i64) (.int .i64)))) (.slice (.pair (.int .i64) (.pair (.int .i64) (.int .i64)))))))))))], ts := [(.int .i64), (.int .i64), (.int .i64), (.pair (.int .i64) (.pair .bool (.pair (.pair (.int .i64) (.pair (.int .i64) (.pair (.slice (.int .i64)) (.int .i64)))) (.pair (.int .i64) (.pair (.int .i64) (.pair (.slice (.pair (.int .i64) (.pair (.int .i64) (.int .i64)))) (.slice (.pair (.int .i64) (.pair (.int .i64) (.int .i64)))))))))), (.pair (.int .i64) (.pair .bool (.pair (.pair (.int .i64) (.pair (.int .i64) (.pair (.slice (.int .i64)) (.int .i64)))) (.pair (.int .i64) (.pair (.int .i64) (.pair (.slice (.pair (.int .i64) (.pair (.int .i64) (.int .i64)))) (.slice (.pair (.int .i64) (.pair (.int .i64) (.int .i64))))))))))], pin := 0 }
abbrev es_plaitlaw09_ChansCloses_10 : List (ETag × Shape) := [(.ret, { sl := [(6, (.hole .bool))], bl := [], ts := [.bool], pin := 0 }), (.exit 0, { sl := [(1, (.hole (.int .i64))), (2, (.hole (.int .i64))), (7, (.ptr 0 []))], bl := [.var (.hole (.pair (.int .i64) (.pair .bool (.pair (.pair (.int .i64) (.pair (.int .i64) (.pair (.slice (.int .i64)) (.int .i64)))) (.pair (.int .i64) (.pair (.int .i64) (.pair (.slice (.pair (.int .i64) (.pair (.int .i64) (.int .i64)))) (.slice (.pair (.int .i64) (.pair (.int .i64) (.int .i64)))))))))))], ts := [(.int .i64), (.int .i64), (.pair (.int .i64) (.pair .bool (.pair (.pair (.int .i64) (.pair (.int .i64) (.pair (.slice (.int .i64)) (.int .i64)))) (.pair (.int .i64) (.pair (.int .i64) (.pair (.slice (.pair (.int .i64) (.pair (.int .i64) (.int .i64)))) (.slice (.pair (.int .i64) (.pair (.int .i64) (.int .i64))))))))))], pin := 0 })]
noncomputable def L_plaitlaw09_ChansCloses_10 (x : (Int × Int × Int × (Int × (Bool × ((Int × (Int × (List (Int) × Int))) × (Int × (Int × (List ((Int × (Int × Int))) × List ((Int × (Int × Int))))))))) × (Int × (Bool × ((Int × (Int × (List (Int) × Int))) × (Int × (Int × (List ((Int × (Int × Int))) × List ((Int × (Int × Int))))))))))) : Option ((Int × Int × Int × (Int × (Bool × ((Int × (Int × (List (Int) × Int))) × (Int × (Int × (List ((Int × (Int × Int))) × List ((Int × (Int × Int))))))))) × (Int × (Bool × ((Int × (Int × (List (Int) × Int))) × (Int × (Int × (List ((Int × (Int × Int))) × List ((Int × (Int × Int)))))))))) ⊕ ((Bool) ⊕ (Int × Int × (Int × (Bool × ((Int × (Int × (List (Int) × Int))) × (Int × (Int × (List ((Int × (Int × Int))) × List ((Int × (Int × Int)))))))))))) :=
  bif (decide (x.2.2.1 < x.2.2.2.1.2.2.2.1)) then
    bif (decide (x.2.2.1 < (Go.IntKind.wrap Go.IntKind.i64 (x.2.2.2.1.2.2.2.2.1 + (8 : Int))))) then
      ((F_chans_Recv (x.2.2.2.2, (x.1, ((0 : Int), (0 : Int)))))).bind fun r5 =>
      bif (r5.2.2 != (0 : Int)) then
        some (.inr (.inl false))
      else
        bif (r5.2.1.1 != (1 : Int)) then
          some (.inr (.inl false))
        else
          bif (r5.2.1.2.1 != x.2.2.1) then
            some (.inr (.inl false))
          else
            bif (r5.2.1.2.2.1.1 != (Int.negSucc 0)) then
              some (.inr (.inl false))
            else
              some (.inl (x.1, (x.2.1, ((Go.IntKind.wrap Go.IntKind.i64 (x.2.2.1 + (1 : Int))), (x.2.2.2.1, r5.1)))))
    else
      some (.inr (.inr (x.1, (x.2.1, x.2.2.2.2))))
  else
    some (.inr (.inr (x.1, (x.2.1, x.2.2.2.2))))
noncomputable def cx_plaitlaw09_ChansCloses_10 : Ctx := { tb := mkTb T2.tbl, fx := [(7, [], Spec.shp si_plaitlaw09_few so_plaitlaw09_few F_plaitlaw09_few), (17, [], Spec.shp si_chans_Close so_chans_Close F_chans_Close), (12, [], Spec.shp si_plaitlaw09_alive so_plaitlaw09_alive F_plaitlaw09_alive), (9, [], Spec.shp si_chans_Recv so_chans_Recv F_chans_Recv)], sum := [], nt := 193, pin := 0, nr := true, ys := [] }
theorem L_plaitlaw09_ChansCloses_10_ok : CSound Try.prog ⟨193, 0, true⟩ (.loop (loopOf 10 Try.f4)) (pieceSpec sh_plaitlaw09_ChansCloses_10 es_plaitlaw09_ChansCloses_10 (loop L_plaitlaw09_ChansCloses_10)) :=
  loop_sound (C := cx_plaitlaw09_ChansCloses_10) (ctxOK mixed tbl_ok rfl ⟨F_plaitlaw09_few_ok, F_chans_Close_ok, F_plaitlaw09_alive_ok, F_chans_Recv_ok, trivial⟩ trivial) (SumOK.of trivial) sh_plaitlaw09_ChansCloses_10 es_plaitlaw09_ChansCloses_10 rfl rfl L_plaitlaw09_ChansCloses_10 (fun x => by kernel_rfl)
abbrev sh_plaitlaw09_ChansCloses_17 : Shape := { sl := [(1, (.hole (.int .i64))), (7, (.ptr 0 [])), (136, (.hole (.int .i64))), (137, (.hole (.int .i64)))], bl := [.var (.hole (.pair (.int .i64) (.pair .bool (.pair (.pair (.int .i64) (.pair (.int .i64) (.pair (.slice (.int .i64)) (.int .i64)))) (.pair (.int .i64) (.pair (.int .i64) (.pair (.slice (.pair (.int .i64) (.pair (.int .i64) (.int .i64)))) (.slice (.pair (.int .i64) (.pair (.int .i64) (.int .i64)))))))))))], ts := [(.int .i64), (.int .i64), (.int .i64), (.pair (.int .i64) (.pair .bool (.pair (.pair (.int .i64) (.pair (.int .i64) (.pair (.slice (.int .i64)) (.int .i64)))) (.pair (.int .i64) (.pair (.int .i64) (.pair (.slice (.pair (.int .i64) (.pair (.int .i64) (.int .i64)))) (.slice (.pair (.int .i64) (.pair (.int .i64) (.int .i64))))))))))], pin := 0 }
abbrev es_plaitlaw09_ChansCloses_17 : List (ETag × Shape) := [(.ret, { sl := [(6, (.hole .bool))], bl := [], ts := [.bool], pin := 0 }), (.exit 2, { sl := [], bl := [], ts := [], pin := 0 })]
noncomputable def L_plaitlaw09_ChansCloses_17 (x : (Int × Int × Int × (Int × (Bool × ((Int × (Int × (List (Int) × Int))) × (Int × (Int × (List ((Int × (Int × Int))) × List ((Int × (Int × Int))))))))))) : Option ((Int × Int × Int × (Int × (Bool × ((Int × (Int × (List (Int) × Int))) × (Int × (Int × (List ((Int × (Int × Int))) × List ((Int × (Int × Int)))))))))) ⊕ ((Bool) ⊕ Unit)) :=
  bif (decide (x.2.2.1 < x.2.1)) then
    ((F_chans_Recv (x.2.2.2, ((Go.IntKind.wrap Go.IntKind.i64 (x.1 + x.2.2.1)), ((0 : Int), (0 : Int)))))).bind fun r7 =>
    ((F_chans_Send (x.2.2.2, ((Go.IntKind.wrap Go.IntKind.i64 (x.1 + x.2.2.1)), ((0 : Int), (0 : Int)))))).bind fun r8 =>
    ((F_chans_Close x.2.2.2)).bind fun r9 =>
    bif (r7.2.2 != (0 : Int)) then
      some (.inr (.inl false))
    else
      bif (r8.2.2 != (0 : Int)) then
        some (.inr (.inl false))
      else
        bif (r9.2.2.2 != (0 : Int)) then
          some (.inr (.inl false))
        else
          bif (r7.2.1.1 != (2 : Int)) then
            some (.inr (.inl false))
          else
            bif (r8.2.1.1 != (3 : Int)) then
              some (.inr (.inl false))
            else
              bif (Bool.not r9.2.2.1) then
                some (.inr (.inl false))
              else
                some (.inl (x.1, (x.2.1, ((Go.IntKind.wrap Go.IntKind.i64 (x.2.2.1 + (1 : Int))), r7.1))))
  else
    some (.inr (.inr ()))
noncomputable def cx_plaitlaw09_ChansCloses_17 : Ctx := { tb := mkTb T2.tbl, fx := [(7, [], Spec.shp si_plaitlaw09_few so_plaitlaw09_few F_plaitlaw09_few), (17, [], Spec.shp si_chans_Close so_chans_Close F_chans_Close), (12, [], Spec.shp si_plaitlaw09_alive so_plaitlaw09_alive F_plaitlaw09_alive), (9, [], Spec.shp si_chans_Recv so_chans_Recv F_chans_Recv), (8, [], Spec.shp si_chans_Send so_chans_Send F_chans_Send)], sum := [(0, 10, pieceSpec sh_plaitlaw09_ChansCloses_10 es_plaitlaw09_ChansCloses_10 (loop L_plaitlaw09_ChansCloses_10))], nt := 193, pin := 0, nr := true, ys := [] }
theorem L_plaitlaw09_ChansCloses_17_ok : CSound Try.prog ⟨193, 0, true⟩ (.loop (loopOf 17 Try.f4)) (pieceSpec sh_plaitlaw09_ChansCloses_17 es_plaitlaw09_ChansCloses_17 (loop L_plaitlaw09_ChansCloses_17)) :=
  loop_sound (C := cx_plaitlaw09_ChansCloses_17) (ctxOK mixed tbl_ok rfl ⟨F_plaitlaw09_few_ok, F_chans_Close_ok, F_plaitlaw09_alive_ok, F_chans_Recv_ok, F_chans_Send_ok, trivial⟩ trivial) (SumOK.of ⟨(pieces_none (by kernel_rfl)), trivial⟩) sh_plaitlaw09_ChansCloses_17 es_plaitlaw09_ChansCloses_17 rfl rfl L_plaitlaw09_ChansCloses_17 (fun x => by kernel_rfl)

end Go.Proofs.Ytgnellpcphepjaa.VX.VxD_C
