import Derived.Test.YtegbkaaibgdheaaVxR
import Derived.Test.YtegbkaaibgdheaaVxT2
set_option linter.unusedVariables false
set_option maxRecDepth 100000
namespace Go.Proofs.Ytegbkaaibgdheaa.VX.VxB_Ring
open Go.Proofs Go.Proofs.Ytegbkaaibgdheaa.VX.T2
theorem mixed : Try.prog.follows .mixedOrders = true := by kernel_rfl
abbrev si_plaitlaw04_few : Shape := { sl := [(0, (.hole (.pair (.int .i64) (.pair (.int .i64) (.pair (.slice (.int .i64)) (.int .i64))))))], bl := [], ts := [(.pair (.int .i64) (.pair (.int .i64) (.pair (.slice (.int .i64)) (.int .i64))))], pin := 0 }
abbrev so_plaitlaw04_few : Shape := { sl := [(0, (.hole (.pair (.int .i64) (.pair (.int .i64) (.pair (.slice (.int .i64)) (.int .i64))))))], bl := [], ts := [(.pair (.int .i64) (.pair (.int .i64) (.pair (.slice (.int .i64)) (.int .i64))))], pin := 0 }
noncomputable def F_plaitlaw04_few (x : ((Int × (Int × (List (Int) × Int))))) : Option ((Int × (Int × (List (Int) × Int)))) :=
  bif (Go.Proofs.Ytegbkaaibgdheaa.VX.sub3 (0 : Int) (Min.min (((List.length x.2.2.1) : Nat) : Int) (12 : Int)) (List.length x.2.2.1)) then
    some (x.1, (x.2.1, ((Go.Proofs.Ytegbkaaibgdheaa.VX.cut x.2.2.1 (Go.Proofs.Ytegbkaaibgdheaa.VX.toN (0 : Int)) ((Go.Proofs.Ytegbkaaibgdheaa.VX.toN (Min.min (((List.length x.2.2.1) : Nat) : Int) (12 : Int))) - (Go.Proofs.Ytegbkaaibgdheaa.VX.toN (0 : Int)))), x.2.2.2)))
  else
    none
noncomputable def cx_plaitlaw04_few : Ctx := { tb := mkTb T2.tbl, fx := [], sum := [], nt := 12, pin := 0, nr := true, ys := [] }
theorem F_plaitlaw04_few_ok : Sound Try.prog 20 (Spec.shp si_plaitlaw04_few so_plaitlaw04_few F_plaitlaw04_few) :=
  Sound.shp (C := cx_plaitlaw04_few) (fn := Try.f20) (by kernel_rfl) (c := bodyOf Try.f20) (by kernel_rfl) (by decide) (ctxOK mixed tbl_ok rfl trivial trivial) (SumOK.of trivial) (by kernel_rfl) si_plaitlaw04_few so_plaitlaw04_few rfl (by decide) (by decide) rfl (by decide) rfl F_plaitlaw04_few (fun x => by kernel_rfl)
abbrev si_ring_Right : Shape := { sl := [(0, (.hole (.pair (.int .i64) (.pair (.int .i64) (.pair (.slice (.int .i64)) (.int .i64))))))], bl := [], ts := [(.pair (.int .i64) (.pair (.int .i64) (.pair (.slice (.int .i64)) (.int .i64))))], pin := 0 }
abbrev so_ring_Right : Shape := { sl := [(0, (.hole .bool))], bl := [], ts := [.bool], pin := 0 }
noncomputable def F_ring_Right (x : ((Int × (Int × (List (Int) × Int))))) : Option (Bool) :=
  bif (decide (x.1 ≥ (0 : Int))) then
    bif (decide (x.1 ≤ (8 : Int))) then
      bif ((((List.length x.2.2.1) : Nat) : Int) == x.1) then
        bif (decide (x.2.2.2 ≥ (0 : Int))) then
          bif (decide (x.2.2.2 ≤ x.1)) then
            bif (decide (x.2.1 ≥ (0 : Int))) then
              some (decide (x.2.1 < (Max.max (1 : Int) x.1)))
            else
              some false
          else
            some false
        else
          some false
      else
        some false
    else
      some false
  else
    some false
noncomputable def cx_ring_Right : Ctx := { tb := mkTb T2.tbl, fx := [], sum := [], nt := 46, pin := 0, nr := true, ys := [] }
theorem F_ring_Right_ok : Sound Try.prog 18 (Spec.shp si_ring_Right so_ring_Right F_ring_Right) :=
  Sound.shp (C := cx_ring_Right) (fn := Try.f18) (by kernel_rfl) (c := bodyOf Try.f18) (by kernel_rfl) (by decide) (ctxOK mixed tbl_ok rfl trivial trivial) (SumOK.of trivial) (by kernel_rfl) si_ring_Right so_ring_Right rfl (by decide) (by decide) rfl (by decide) rfl F_ring_Right (fun x => by kernel_rfl)
abbrev si_ring_places_all : Shape := { sl := [(0, (.hole (.one (.pair (.int .i64) (.pair (.int .i64) (.pair (.slice (.int .i64)) (.int .i64)))))))], bl := [], ts := [(.one (.pair (.int .i64) (.pair (.int .i64) (.pair (.slice (.int .i64)) (.int .i64)))))], pin := 0 }
abbrev so_ring_places_all : Shape := { sl := [(0, (.fn 75 .nil (.cons (.ptr 0 []) .nil)))], bl := [.var (.hole (.one (.pair (.int .i64) (.pair (.int .i64) (.pair (.slice (.int .i64)) (.int .i64))))))], ts := [(.one (.pair (.int .i64) (.pair (.int .i64) (.pair (.slice (.int .i64)) (.int .i64)))))], pin := 0 }
noncomputable def F_ring_places_all (x : ((Int × (Int × (List (Int) × Int))))) : Option ((Int × (Int × (List (Int) × Int)))) :=
  some x
noncomputable def cx_ring_places_all : Ctx := { tb := mkTb T2.tbl, fx := [], sum := [], nt := 4, pin := 0, nr := true, ys := [] }
theorem F_ring_places_all_ok : Sound Try.prog 61 (Spec.shp si_ring_places_all so_ring_places_all F_ring_places_all) :=
  Sound.shp (C := cx_ring_places_all) (fn := Try.f61) (by kernel_rfl) (c := bodyOf Try.f61) (by kernel_rfl) (by decide) (ctxOK mixed tbl_ok rfl trivial trivial) (SumOK.of trivial) (by kernel_rfl) si_ring_places_all so_ring_places_all rfl (by decide) (by decide) rfl (by decide) rfl F_ring_places_all (fun x => by kernel_rfl)
abbrev si_ring_Items_r6 : Shape := { sl := [(4, (.ptr 0 [])), (12, (.hole (.int .i64)))], bl := [.var (.sl 1), .row (.int .i64)], ts := [(.int .i64), (.slice (.int .i64))], pin := 0 }
abbrev so_ring_Items_r6 : Shape := { sl := [(0, (.hole (.int .i64)))], bl := [.var (.sl 1), .row (.int .i64)], ts := [(.int .i64), (.slice (.int .i64))], pin := 1 }
noncomputable def F_ring_Items_r6 (x : (Int × List (Int))) : Option (Int × List (Int)) :=
  bif (Go.Proofs.Ytegbkaaibgdheaa.VX.fits ((List.length x.2) + (List.length (x.1 :: ([] : List Int))))) then
    some ((0 : Int), (x.2 ++ (x.1 :: ([] : List Int))))
  else
    none
noncomputable def cx_ring_Items_r6 : Ctx := { tb := mkTb T2.tbl, fx := [], sum := [], nt := 18, pin := 1, nr := false, ys := [] }
theorem F_ring_Items_r6_ok : YSound Try.prog 1048582 [4] (Spec.rnd [4, 12] si_ring_Items_r6 so_ring_Items_r6 F_ring_Items_r6) :=
  YSound.rnd (C := cx_ring_Items_r6) (rt := ⟨rfPs (rfOf 6 Try.f16), rfAs (rfOf 6 Try.f16), rfBody (rfOf 6 Try.f16), 18⟩) (by kernel_rfl) (ctxOK mixed tbl_ok rfl trivial) (SumOK.of trivial) (SumOK.of trivial) rfl rfl [4] si_ring_Items_r6 so_ring_Items_r6 rfl (by decide) (by decide) rfl (fun y => ⟨_, rfl⟩) (of_decide_eq_true (by kernel_rfl)) (of_decide_eq_true (by kernel_rfl)) F_ring_Items_r6 (fun x => by kernel_rfl)
abbrev si_ring_places_at : Shape := { sl := [(0, (.hole (.one (.pair (.int .i64) (.pair (.int .i64) (.pair (.slice (.int .i64)) (.int .i64))))))), (1, (.hole (.int .i64)))], bl := [], ts := [(.one (.pair (.int .i64) (.pair (.int .i64) (.pair (.slice (.int .i64)) (.int .i64))))), (.int .i64)], pin := 0 }
abbrev so_ring_places_at : Shape := { sl := [(0, (.hole (.int .i64)))], bl := [], ts := [(.int .i64)], pin := 0 }
noncomputable def F_ring_places_at (x : ((Int × (Int × (List (Int) × Int))) × Int)) : Option (Int) :=
  bif (x.1.1 != (0 : Int)) then
    some (Int.tmod (Go.IntKind.wrap Go.IntKind.i64 (x.1.2.1 + x.2)) x.1.1)
  else
    none
noncomputable def cx_ring_places_at : Ctx := { tb := mkTb T2.tbl, fx := [], sum := [], nt := 14, pin := 0, nr := true, ys := [] }
theorem F_ring_places_at_ok : Sound Try.prog 59 (Spec.shp si_ring_places_at so_ring_places_at F_ring_places_at) :=
  Sound.shp (C := cx_ring_places_at) (fn := Try.f59) (by kernel_rfl) (c := bodyOf Try.f59) (by kernel_rfl) (by decide) (ctxOK mixed tbl_ok rfl trivial trivial) (SumOK.of trivial) (by kernel_rfl) si_ring_places_at so_ring_places_at rfl (by decide) (by decide) rfl (by decide) rfl F_ring_places_at (fun x => by kernel_rfl)
abbrev sh_ring_places_all_1_ring_Items_r6_2 : Shape := { sl := [(0, (.yl 0)), (1, (.ptr 1 [])), (6, (.hole (.int .i64))), (7, (.hole (.int .i64)))], bl := [.lp 1048582 [4] (.cons (.ptr 2 []) .nil), .var (.hole (.one (.pair (.int .i64) (.pair (.int .i64) (.pair (.slice (.int .i64)) (.int .i64)))))), .var (.sl 3), .row (.int .i64)], ts := [(.int .i64), (.int .i64), (.one (.pair (.int .i64) (.pair (.int .i64) (.pair (.slice (.int .i64)) (.int .i64))))), (.slice (.int .i64))], pin := 3 }
abbrev es_ring_places_all_1_ring_Items_r6_2 : List (ETag × Shape) := [(.ret, { sl := [], bl := [.lpt 1048582 [4] (.cons (.ptr 2 []) .nil), .var (.hole (.one (.pair (.int .i64) (.pair (.int .i64) (.pair (.slice (.int .i64)) (.int .i64)))))), .var (.sl 3), .row (.int .i64)], ts := [(.int .i64), (.one (.pair (.int .i64) (.pair (.int .i64) (.pair (.slice (.int .i64)) (.int .i64))))), (.slice (.int .i64))], pin := 3 }), (.exit 0, { sl := [], bl := [.lp 1048582 [4] (.cons (.ptr 2 []) .nil), .var (.hole (.one (.pair (.int .i64) (.pair (.int .i64) (.pair (.slice (.int .i64)) (.int .i64)))))), .var (.sl 3), .row (.int .i64)], ts := [(.one (.pair (.int .i64) (.pair (.int .i64) (.pair (.slice (.int .i64)) (.int .i64))))), (.slice (.int .i64))], pin := 3 })]
noncomputable def L_ring_places_all_1_ring_Items_r6_2 (x : (Int × Int × (Int × (Int × (List (Int) × Int))) × List (Int))) : Option ((Int × Int × (Int × (Int × (List (Int) × Int))) × List (Int)) ⊕ ((Int × (Int × (Int × (List (Int) × Int))) × List (Int)) ⊕ ((Int × (Int × (List (Int) × Int))) × List (Int)))) :=
  bif (decide (x.2.1 < x.1)) then
    ((F_ring_places_at (x.2.2.1, x.2.1))).bind fun r7 =>
    bif (Go.Proofs.Ytegbkaaibgdheaa.VX.inb r7 (List.length x.2.2.1.2.2.1)) then
      ((F_ring_Items_r6 ((Go.Proofs.Ytegbkaaibgdheaa.VX.getAt (0 : Int) x.2.2.1.2.2.1 (Go.Proofs.Ytegbkaaibgdheaa.VX.toN r7)), x.2.2.2))).bind fun r8 =>
      bif (Go.Proofs.Ytegbkaaibgdheaa.VX.eqI r8.1 (0 : Int)) then
        some (.inl (x.1, ((Go.IntKind.wrap Go.IntKind.i64 (x.2.1 + (1 : Int))), (x.2.2.1, r8.2))))
      else
        some (.inr (.inl (r8.1, (x.2.2.1, r8.2))))
    else
      none
  else
    some (.inr (.inr (x.2.2.1, x.2.2.2)))
noncomputable def cx_ring_places_all_1_ring_Items_r6_2 : Ctx := { tb := mkTb T2.tbl, fx := [(59, [], Spec.shp si_ring_places_at so_ring_places_at F_ring_places_at)], sum := [], nt := 22, pin := 3, nr := true, ys := [(1048582, [4], Spec.rnd [4, 12] { sl := [(4, (.ptr 0 [])), (12, (.hole (.int .i64)))], bl := [.var (.sl 1), .row (.int .i64)], ts := [(.int .i64), (.slice (.int .i64))], pin := 0 } { sl := [(0, (.hole (.int .i64)))], bl := [.var (.sl 1), .row (.int .i64)], ts := [(.int .i64), (.slice (.int .i64))], pin := 1 } F_ring_Items_r6)] }
theorem L_ring_places_all_1_ring_Items_r6_2_ok : CSound Try.prog ⟨22, 3, true⟩ (.loop (loopOf 2 Try.f75)) (pieceSpec sh_ring_places_all_1_ring_Items_r6_2 es_ring_places_all_1_ring_Items_r6_2 (loop L_ring_places_all_1_ring_Items_r6_2)) :=
  loop_sound (C := cx_ring_places_all_1_ring_Items_r6_2) (ctxOK mixed tbl_ok rfl ⟨F_ring_places_at_ok, trivial⟩ ⟨F_ring_Items_r6_ok, trivial⟩) (SumOK.of trivial) sh_ring_places_all_1_ring_Items_r6_2 es_ring_places_all_1_ring_Items_r6_2 rfl rfl L_ring_places_all_1_ring_Items_r6_2 (fun x => by kernel_rfl)
abbrev si_ring_places_all_1_ring_Items_r6 : Shape := { sl := [(0, (.yl 0)), (1, (.ptr 1 []))], bl := [.lp 1048582 [4] (.cons (.ptr 2 []) .nil), .var (.hole (.one (.pair (.int .i64) (.pair (.int .i64) (.pair (.slice (.int .i64)) (.int .i64)))))), .var (.sl 3), .row (.int .i64)], ts := [(.one (.pair (.int .i64) (.pair (.int .i64) (.pair (.slice (.int .i64)) (.int .i64))))), (.slice (.int .i64))], pin := 0 }
abbrev so_ring_places_all_1_ring_Items_r6 : Shape := { sl := [], bl := [.lpt 1048582 [4] (.cons (.ptr 2 []) .nil), .var (.hole (.one (.pair (.int .i64) (.pair (.int .i64) (.pair (.slice (.int .i64)) (.int .i64)))))), .var (.sl 3), .row (.int .i64)], ts := [(.int .i64), (.one (.pair (.int .i64) (.pair (.int .i64) (.pair (.slice (.int .i64)) (.int .i64))))), (.slice (.int .i64))], pin := 3 }
noncomputable def F_ring_places_all_1_ring_Items_r6 (x : ((Int × (Int × (List (Int) × Int))) × List (Int))) : Option (Int × (Int × (Int × (List (Int) × Int))) × List (Int)) :=
  ((loop L_ring_places_all_1_ring_Items_r6_2 (x.1.2.2.2, ((0 : Int), (x.1, x.2))))).bind fun r6 =>
  match r6 with
  | .inl y7 =>
    some (y7.1, (y7.2.1, y7.2.2))
  | .inr y7 =>
    some ((0 : Int), (y7.1, y7.2))
noncomputable def cx_ring_places_all_1_ring_Items_r6 : Ctx := { tb := mkTb T2.tbl, fx := [(59, [], Spec.shp si_ring_places_at so_ring_places_at F_ring_places_at)], sum := [(0, 2, pieceSpec sh_ring_places_all_1_ring_Items_r6_2 es_ring_places_all_1_ring_Items_r6_2 (loop L_ring_places_all_1_ring_Items_r6_2))], nt := 22, pin := 3, nr := true, ys := [(1048582, [4], Spec.rnd [4, 12] si_ring_Items_r6 so_ring_Items_r6 F_ring_Items_r6)] }
theorem F_ring_places_all_1_ring_Items_r6_ok : Sound Try.prog 75 (Spec.shp si_ring_places_all_1_ring_Items_r6 so_ring_places_all_1_ring_Items_r6 F_ring_places_all_1_ring_Items_r6) :=
  Sound.shp (C := cx_ring_places_all_1_ring_Items_r6) (fn := Try.f75) (by kernel_rfl) (c := bodyOf Try.f75) (by kernel_rfl) (by decide) (ctxOK mixed tbl_ok rfl ⟨F_ring_places_at_ok, trivial⟩ ⟨F_ring_Items_r6_ok, trivial⟩) (SumOK.of ⟨(by first | exact pieces_one (d := .loop (loopOf 2 Try.f75)) (by kernel_rfl) L_ring_places_all_1_ring_Items_r6_2_ok | exact pieces_none (by kernel_rfl)), trivial⟩) (by kernel_rfl) si_ring_places_all_1_ring_Items_r6 so_ring_places_all_1_ring_Items_r6 rfl (by decide) (by decide) rfl (by decide) rfl F_ring_places_all_1_ring_Items_r6 (fun x => by kernel_rfl)
abbrev si_ring_Items : Shape := { sl := [(0, (.hole (.pair (.int .i64) (.pair (.int .i64) (.pair (.slice (.int .i64)) (.int .i64))))))], bl := [], ts := [(.pair (.int .i64) (.pair (.int .i64) (.pair (.slice (.int .i64)) (.int .i64))))], pin := 0 }
abbrev so_ring_Items : Shape := { sl := [(0, (.hole (.slice (.int .i64)))), (1, (.hole (.int .i64)))], bl := [], ts := [(.slice (.int .i64)), (.int .i64)], pin := 0 }
noncomputable def F_ring_Items (x : ((Int × (Int × (List (Int) × Int))))) : Option (List (Int) × Int) :=
  ((F_ring_Right x)).bind fun r3 =>
  bif (Bool.not r3) then
    some (([] : List Int), (1 : Int))
  else
    ((F_ring_places_all x)).bind fun r4 =>
    ((F_ring_places_all_1_ring_Items_r6 (r4, ([] : List Int)))).bind fun r5 =>
    bif (Go.Proofs.Ytegbkaaibgdheaa.VX.eqI r5.1 (0 : Int)) then
      some (r5.2.2, (0 : Int))
    else
      bif (Go.Proofs.Ytegbkaaibgdheaa.VX.eqI r5.1 (1 : Int)) then
        some (([] : List Int), (0 : Int))
      else
        none
noncomputable def cx_ring_Items : Ctx := { tb := mkTb T2.tbl, fx := [(18, [], Spec.shp si_ring_Right so_ring_Right F_ring_Right), (61, [], Spec.shp si_ring_places_all so_ring_places_all F_ring_places_all)], sum := [(3, 6, rangeSpec (rfF (rfOf 6 Try.f16)) 1048582 [4] [] [(75, [2048582], Spec.shp si_ring_places_all_1_ring_Items_r6 so_ring_places_all_1_ring_Items_r6 F_ring_places_all_1_ring_Items_r6)])], nt := 18, pin := 0, nr := true, ys := [] }
theorem F_ring_Items_ok : Sound Try.prog 16 (Spec.shp si_ring_Items so_ring_Items F_ring_Items) :=
  Sound.shp (C := cx_ring_Items) (fn := Try.f16) (by kernel_rfl) (c := bodyOf Try.f16) (by kernel_rfl) (by decide) (ctxOK mixed tbl_ok rfl ⟨F_ring_Right_ok, F_ring_places_all_ok, trivial⟩ trivial) (SumOK.of ⟨(by first | exact pieces_one (d := rfOf 6 Try.f16) (by kernel_rfl) (range_at1 (c := rfOf 6 Try.f16) rfl (by kernel_rfl) F_ring_places_all_1_ring_Items_r6_ok [4] []) | exact pieces_none (by kernel_rfl)), trivial⟩) (by kernel_rfl) si_ring_Items so_ring_Items rfl (by decide) (by decide) rfl (by decide) rfl F_ring_Items (fun x => by kernel_rfl)
abbrev si_ring_Grow : Shape := { sl := [(0, (.hole (.pair (.int .i64) (.pair (.int .i64) (.pair (.slice (.int .i64)) (.int .i64)))))), (1, (.hole (.int .i64)))], bl := [], ts := [(.pair (.int .i64) (.pair (.int .i64) (.pair (.slice (.int .i64)) (.int .i64)))), (.int .i64)], pin := 0 }
abbrev so_ring_Grow : Shape := { sl := [(0, (.hole (.pair (.int .i64) (.pair (.int .i64) (.pair (.slice (.int .i64)) (.int .i64)))))), (1, (.hole (.int .i64)))], bl := [], ts := [(.pair (.int .i64) (.pair (.int .i64) (.pair (.slice (.int .i64)) (.int .i64)))), (.int .i64)], pin := 0 }
noncomputable def F_ring_Grow (x : ((Int × (Int × (List (Int) × Int))) × Int)) : Option ((Int × (Int × (List (Int) × Int))) × Int) :=
  ((F_ring_Items x.1)).bind fun r4 =>
  bif (r4.2 != (0 : Int)) then
    some (((0 : Int), ((0 : Int), (([] : List Int), (0 : Int)))), r4.2)
  else
    bif (decide (x.2 < (((List.length r4.1) : Nat) : Int))) then
      some (((0 : Int), ((0 : Int), (([] : List Int), (0 : Int)))), (2 : Int))
    else
      bif (decide (x.2 > (8 : Int))) then
        some (((0 : Int), ((0 : Int), (([] : List Int), (0 : Int)))), (2 : Int))
      else
        bif (Go.Proofs.Ytegbkaaibgdheaa.VX.mkOK x.2 x.2) then
          some ((x.2, ((0 : Int), ((Go.Proofs.Ytegbkaaibgdheaa.VX.over (List.replicate (Go.Proofs.Ytegbkaaibgdheaa.VX.toN x.2) (0 : Int)) r4.1 (0 : Nat) (Go.Proofs.Ytegbkaaibgdheaa.VX.lenMin (@Go.Proofs.Ytegbkaaibgdheaa.VX.Ty.int Go.IntKind.i64) r4.1 (List.length (List.replicate (Go.Proofs.Ytegbkaaibgdheaa.VX.toN x.2) (0 : Int))))), (((List.length r4.1) : Nat) : Int)))), (0 : Int))
        else
          none
noncomputable def cx_ring_Grow : Ctx := { tb := mkTb T2.tbl, fx := [(16, [], Spec.shp si_ring_Items so_ring_Items F_ring_Items)], sum := [], nt := 39, pin := 0, nr := true, ys := [] }
theorem F_ring_Grow_ok : Sound Try.prog 21 (Spec.shp si_ring_Grow so_ring_Grow F_ring_Grow) :=
  Sound.shp (C := cx_ring_Grow) (fn := Try.f21) (by kernel_rfl) (c := bodyOf Try.f21) (by kernel_rfl) (by decide) (ctxOK mixed tbl_ok rfl ⟨F_ring_Items_ok, trivial⟩ trivial) (SumOK.of trivial) (by kernel_rfl) si_ring_Grow so_ring_Grow rfl (by decide) (by decide) rfl (by decide) rfl F_ring_Grow (fun x => by kernel_rfl)
abbrev sh_plaitref01_Rows_5 : Shape := { sl := [(0, (.hole (.slice (.int .i64)))), (1, (.hole (.slice (.int .i64)))), (12, (.hole (.int .i64))), (13, (.hole (.int .i64)))], bl := [], ts := [(.slice (.int .i64)), (.slice (.int .i64)), (.int .i64), (.int .i64)], pin := 0 }
abbrev es_plaitref01_Rows_5 : List (ETag × Shape) := [(.ret, { sl := [(4, (.hole .bool))], bl := [], ts := [.bool], pin := 0 }), (.exit 0, { sl := [], bl := [], ts := [], pin := 0 })]
noncomputable def L_plaitref01_Rows_5 (x : (List (Int) × List (Int) × Int × Int)) : Option ((List (Int) × List (Int) × Int × Int) ⊕ ((Bool) ⊕ Unit)) :=
  bif (decide (x.2.2.2 < x.2.2.1)) then
    bif (Go.Proofs.Ytegbkaaibgdheaa.VX.inb x.2.2.2 (List.length x.1)) then
      bif (Go.Proofs.Ytegbkaaibgdheaa.VX.inb x.2.2.2 (List.length x.2.1)) then
        bif ((Go.Proofs.Ytegbkaaibgdheaa.VX.getAt (0 : Int) x.1 (Go.Proofs.Ytegbkaaibgdheaa.VX.toN x.2.2.2)) != (Go.Proofs.Ytegbkaaibgdheaa.VX.getAt (0 : Int) x.2.1 (Go.Proofs.Ytegbkaaibgdheaa.VX.toN x.2.2.2))) then
          some (.inr (.inl false))
        else
          some (.inl (x.1, (x.2.1, (x.2.2.1, (Go.IntKind.wrap Go.IntKind.i64 (x.2.2.2 + (1 : Int)))))))
      else
        none
    else
      none
  else
    some (.inr (.inr ()))
noncomputable def cx_plaitref01_Rows_5 : Ctx := { tb := mkTb T2.tbl, fx := [], sum := [], nt := 26, pin := 0, nr := true, ys := [] }
theorem L_plaitref01_Rows_5_ok : CSound Try.prog ⟨26, 0, true⟩ (.loop (loopOf 5 Try.f17)) (pieceSpec sh_plaitref01_Rows_5 es_plaitref01_Rows_5 (loop L_plaitref01_Rows_5)) :=
  loop_sound (C := cx_plaitref01_Rows_5) (ctxOK mixed tbl_ok rfl trivial trivial) (SumOK.of trivial) sh_plaitref01_Rows_5 es_plaitref01_Rows_5 rfl rfl L_plaitref01_Rows_5 (fun x => by kernel_rfl)
abbrev si_plaitref01_Rows : Shape := { sl := [(0, (.hole (.slice (.int .i64)))), (1, (.hole (.slice (.int .i64))))], bl := [], ts := [(.slice (.int .i64)), (.slice (.int .i64))], pin := 0 }
abbrev so_plaitref01_Rows : Shape := { sl := [(0, (.hole .bool))], bl := [], ts := [.bool], pin := 0 }
noncomputable def F_plaitref01_Rows (x : (List (Int) × List (Int))) : Option (Bool) :=
  bif ((((List.length x.1) : Nat) : Int) != (((List.length x.2) : Nat) : Int)) then
    some false
  else
    ((loop L_plaitref01_Rows_5 (x.1, (x.2, ((((List.length x.1) : Nat) : Int), (0 : Int)))))).bind fun r7 =>
    match r7 with
    | .inl y8 =>
      some y8
    | .inr y8 =>
      some true
noncomputable def cx_plaitref01_Rows : Ctx := { tb := mkTb T2.tbl, fx := [], sum := [(0, 5, pieceSpec sh_plaitref01_Rows_5 es_plaitref01_Rows_5 (loop L_plaitref01_Rows_5))], nt := 26, pin := 0, nr := true, ys := [] }
theorem F_plaitref01_Rows_ok : Sound Try.prog 17 (Spec.shp si_plaitref01_Rows so_plaitref01_Rows F_plaitref01_Rows) :=
  Sound.shp (C := cx_plaitref01_Rows) (fn := Try.f17) (by kernel_rfl) (c := bodyOf Try.f17) (by kernel_rfl) (by decide) (ctxOK mixed tbl_ok rfl trivial trivial) (SumOK.of ⟨(by first | exact pieces_one (d := .loop (loopOf 5 Try.f17)) (by kernel_rfl) L_plaitref01_Rows_5_ok | exact pieces_none (by kernel_rfl)), trivial⟩) (by kernel_rfl) si_plaitref01_Rows so_plaitref01_Rows rfl (by decide) (by decide) rfl (by decide) rfl F_plaitref01_Rows (fun x => by kernel_rfl)
abbrev si_plaitlaw04_alive : Shape := { sl := [], bl := [], ts := [], pin := 0 }
abbrev so_plaitlaw04_alive : Shape := { sl := [(0, (.hole .bool))], bl := [], ts := [.bool], pin := 0 }
noncomputable def F_plaitlaw04_alive (x : Unit) : Option (Bool) :=
  ((F_ring_Items ((2 : Int), ((1 : Int), (((7 : Int) :: ((5 : Int) :: ([] : List Int))), (2 : Int)))))).bind fun r5 =>
  bif (r5.2 == (0 : Int)) then
    ((F_plaitref01_Rows (r5.1, ((5 : Int) :: ((7 : Int) :: ([] : List Int)))))).bind fun r6 =>
    some r6
  else
    some false
noncomputable def cx_plaitlaw04_alive : Ctx := { tb := mkTb T2.tbl, fx := [(16, [2000000], Spec.shp si_ring_Items so_ring_Items F_ring_Items), (17, [2000000], Spec.shp si_plaitref01_Rows so_plaitref01_Rows F_plaitref01_Rows)], sum := [], nt := 16, pin := 0, nr := true, ys := [] }
theorem F_plaitlaw04_alive_ok : Sound Try.prog 19 (Spec.shp si_plaitlaw04_alive so_plaitlaw04_alive F_plaitlaw04_alive) :=
  Sound.shp (C := cx_plaitlaw04_alive) (fn := Try.f19) (by kernel_rfl) (c := bodyOf Try.f19) (by kernel_rfl) (by decide) (ctxOK mixed tbl_ok rfl ⟨F_ring_Items_ok, F_plaitref01_Rows_ok, trivial⟩ trivial) (SumOK.of trivial) (by kernel_rfl) si_plaitlaw04_alive so_plaitlaw04_alive rfl (by decide) (by decide) rfl (by decide) rfl F_plaitlaw04_alive (fun x => by kernel_rfl)
abbrev si_plaitlaw04_empty : Shape := { sl := [(0, (.hole (.pair (.int .i64) (.pair (.int .i64) (.pair (.slice (.int .i64)) (.int .i64))))))], bl := [], ts := [(.pair (.int .i64) (.pair (.int .i64) (.pair (.slice (.int .i64)) (.int .i64))))], pin := 0 }
abbrev so_plaitlaw04_empty : Shape := { sl := [(0, (.hole .bool))], bl := [], ts := [.bool], pin := 0 }
noncomputable def F_plaitlaw04_empty (x : ((Int × (Int × (List (Int) × Int))))) : Option (Bool) :=
  bif (x.1 == (0 : Int)) then
    bif (x.2.1 == (0 : Int)) then
      bif (x.2.2.2 == (0 : Int)) then
        some ((((List.length x.2.2.1) : Nat) : Int) == (0 : Int))
      else
        some false
    else
      some false
  else
    some false
noncomputable def cx_plaitlaw04_empty : Ctx := { tb := mkTb T2.tbl, fx := [], sum := [], nt := 22, pin := 0, nr := true, ys := [] }
theorem F_plaitlaw04_empty_ok : Sound Try.prog 22 (Spec.shp si_plaitlaw04_empty so_plaitlaw04_empty F_plaitlaw04_empty) :=
  Sound.shp (C := cx_plaitlaw04_empty) (fn := Try.f22) (by kernel_rfl) (c := bodyOf Try.f22) (by kernel_rfl) (by decide) (ctxOK mixed tbl_ok rfl trivial trivial) (SumOK.of trivial) (by kernel_rfl) si_plaitlaw04_empty so_plaitlaw04_empty rfl (by decide) (by decide) rfl (by decide) rfl F_plaitlaw04_empty (fun x => by kernel_rfl)
abbrev si_slices_Clone_int : Shape := { sl := [(0, (.hole (.slice (.int .i64))))], bl := [], ts := [(.slice (.int .i64))], pin := 0 }
abbrev so_slices_Clone_int : Shape := { sl := [(0, (.sl 0))], bl := [.row (.int .i64)], ts := [(.slice (.int .i64))], pin := 0 }
noncomputable def F_slices_Clone_int (x : (List (Int))) : Option (List (Int)) :=
  bif (@Nat.beq (List.length x) (0 : Nat)) then
    amb (
      some ([] : List Int)) (
      bif (Go.Proofs.Ytegbkaaibgdheaa.VX.fits ((List.length ([] : List Int)) + (List.length x))) then
        some (([] : List Int) ++ x)
      else
        none)
  else
    bif (Go.Proofs.Ytegbkaaibgdheaa.VX.fits ((List.length ([] : List Int)) + (List.length x))) then
      some (([] : List Int) ++ x)
    else
      none
noncomputable def cx_slices_Clone_int : Ctx := { tb := mkTb T2.tbl, fx := [], sum := [], nt := 8, pin := 0, nr := true, ys := [] }
theorem F_slices_Clone_int_ok : Sound Try.prog 60 (Spec.shp si_slices_Clone_int so_slices_Clone_int F_slices_Clone_int) :=
  Sound.shp (C := cx_slices_Clone_int) (fn := Try.f60) (by kernel_rfl) (c := bodyOf Try.f60) (by kernel_rfl) (by decide) (ctxOK mixed tbl_ok rfl trivial trivial) (SumOK.of trivial) (by kernel_rfl) si_slices_Clone_int so_slices_Clone_int rfl (by decide) (by decide) rfl (by decide) rfl F_slices_Clone_int (fun x => by kernel_rfl)
abbrev si_ring_places_at_lent : Shape := { sl := [(0, (.one (.pr (.hole (.int .i64)) (.pr (.hole (.int .i64)) (.pr (.sl 0) (.hole (.int .i64))))))), (1, (.hole (.int .i64)))], bl := [.row (.int .i64)], ts := [(.int .i64), (.int .i64), (.int .i64), (.int .i64), (.slice (.int .i64))], pin := 0 }
abbrev so_ring_places_at_lent : Shape := { sl := [(0, (.hole (.int .i64)))], bl := [.row (.int .i64)], ts := [(.int .i64), (.slice (.int .i64))], pin := 1 }
noncomputable def F_ring_places_at_lent (x : (Int × Int × Int × Int × List (Int))) : Option (Int × List (Int)) :=
  bif (x.1 != (0 : Int)) then
    some ((Int.tmod (Go.IntKind.wrap Go.IntKind.i64 (x.2.1 + x.2.2.2.1)) x.1), x.2.2.2.2)
  else
    none
noncomputable def cx_ring_places_at_lent : Ctx := { tb := mkTb T2.tbl, fx := [], sum := [], nt := 14, pin := 1, nr := true, ys := [] }
theorem F_ring_places_at_lent_ok : Sound Try.prog 59 (Spec.shp si_ring_places_at_lent so_ring_places_at_lent F_ring_places_at_lent) :=
  Sound.shp (C := cx_ring_places_at_lent) (fn := Try.f59) (by kernel_rfl) (c := bodyOf Try.f59) (by kernel_rfl) (by decide) (ctxOK mixed tbl_ok rfl trivial trivial) (SumOK.of trivial) (by kernel_rfl) si_ring_places_at_lent so_ring_places_at_lent rfl (by decide) (by decide) rfl (by decide) rfl F_ring_places_at_lent (fun x => by kernel_rfl)
abbrev si_ring_Push : Shape := { sl := [(0, (.hole (.pair (.int .i64) (.pair (.int .i64) (.pair (.slice (.int .i64)) (.int .i64)))))), (1, (.hole (.int .i64)))], bl := [], ts := [(.pair (.int .i64) (.pair (.int .i64) (.pair (.slice (.int .i64)) (.int .i64)))), (.int .i64)], pin := 0 }
abbrev so_ring_Push : Shape := { sl := [(0, (.hole (.pair (.int .i64) (.pair (.int .i64) (.pair (.slice (.int .i64)) (.int .i64)))))), (1, (.hole (.int .i64)))], bl := [], ts := [(.pair (.int .i64) (.pair (.int .i64) (.pair (.slice (.int .i64)) (.int .i64)))), (.int .i64)], pin := 0 }
noncomputable def F_ring_Push (x : ((Int × (Int × (List (Int) × Int))) × Int)) : Option ((Int × (Int × (List (Int) × Int))) × Int) :=
  ((F_ring_Right x.1)).bind fun r9 =>
  bif (Bool.not r9) then
    some (((0 : Int), ((0 : Int), (([] : List Int), (0 : Int)))), (1 : Int))
  else
    bif (x.1.2.2.2 == x.1.1) then
      some (((0 : Int), ((0 : Int), (([] : List Int), (0 : Int)))), (5 : Int))
    else
      ((F_slices_Clone_int x.1.2.2.1)).bind fun r10 =>
      ((F_ring_places_at_lent (x.1.1, (x.1.2.1, (x.1.2.2.2, (x.1.2.2.2, r10)))))).bind fun r11 =>
      bif (Go.Proofs.Ytegbkaaibgdheaa.VX.inb r11.1 (List.length r11.2)) then
        some ((x.1.1, (x.1.2.1, ((List.set r11.2 (Go.Proofs.Ytegbkaaibgdheaa.VX.toN r11.1) x.2), (Go.IntKind.wrap Go.IntKind.i64 (x.1.2.2.2 + (1 : Int)))))), (0 : Int))
      else
        none
noncomputable def cx_ring_Push : Ctx := { tb := mkTb T2.tbl, fx := [(18, [], Spec.shp si_ring_Right so_ring_Right F_ring_Right), (60, [], Spec.shp si_slices_Clone_int so_slices_Clone_int F_slices_Clone_int), (59, [2000000], Spec.shp si_ring_places_at_lent so_ring_places_at_lent F_ring_places_at_lent)], sum := [], nt := 38, pin := 0, nr := true, ys := [] }
theorem F_ring_Push_ok : Sound Try.prog 14 (Spec.shp si_ring_Push so_ring_Push F_ring_Push) :=
  Sound.shp (C := cx_ring_Push) (fn := Try.f14) (by kernel_rfl) (c := bodyOf Try.f14) (by kernel_rfl) (by decide) (ctxOK mixed tbl_ok rfl ⟨F_ring_Right_ok, F_slices_Clone_int_ok, F_ring_places_at_lent_ok, trivial⟩ trivial) (SumOK.of trivial) (by kernel_rfl) si_ring_Push so_ring_Push rfl (by decide) (by decide) rfl (by decide) rfl F_ring_Push (fun x => by kernel_rfl)
abbrev sh_plaitlaw04_RingGrows_11 : Shape := { sl := [(1, (.hole (.int .i64))), (2, (.hole (.int .i64))), (7, (.hole (.slice (.int .i64)))), (9, (.ptr 0 [])), (78, (.hole (.int .i64))), (79, (.hole (.int .i64)))], bl := [.var (.hole (.pair (.int .i64) (.pair (.int .i64) (.pair (.slice (.int .i64)) (.int .i64)))))], ts := [(.int .i64), (.int .i64), (.slice (.int .i64)), (.int .i64), (.int .i64), (.pair (.int .i64) (.pair (.int .i64) (.pair (.slice (.int .i64)) (.int .i64))))], pin := 0 }
abbrev es_plaitlaw04_RingGrows_11 : List (ETag × Shape) := [(.ret, { sl := [(6, (.hole .bool))], bl := [], ts := [.bool], pin := 0 }), (.exit 0, { sl := [(1, (.hole (.int .i64))), (2, (.hole (.int .i64))), (7, (.hole (.slice (.int .i64)))), (9, (.ptr 0 []))], bl := [.var (.hole (.pair (.int .i64) (.pair (.int .i64) (.pair (.slice (.int .i64)) (.int .i64)))))], ts := [(.int .i64), (.int .i64), (.slice (.int .i64)), (.pair (.int .i64) (.pair (.int .i64) (.pair (.slice (.int .i64)) (.int .i64))))], pin := 0 })]
noncomputable def L_plaitlaw04_RingGrows_11 (x : (Int × Int × List (Int) × Int × Int × (Int × (Int × (List (Int) × Int))))) : Option ((Int × Int × List (Int) × Int × Int × (Int × (Int × (List (Int) × Int)))) ⊕ ((Bool) ⊕ (Int × Int × List (Int) × (Int × (Int × (List (Int) × Int)))))) :=
  bif (decide (x.2.2.2.2.1 < x.2.2.2.1)) then
    ((F_ring_Push (x.2.2.2.2.2, (Go.IntKind.wrap Go.IntKind.i64 (x.2.1 + x.2.2.2.2.1))))).bind fun r8 =>
    bif (r8.2 != (0 : Int)) then
      some (.inr (.inl false))
    else
      some (.inl (x.1, (x.2.1, (x.2.2.1, (x.2.2.2.1, ((Go.IntKind.wrap Go.IntKind.i64 (x.2.2.2.2.1 + (1 : Int))), r8.1))))))
  else
    some (.inr (.inr (x.1, (x.2.1, (x.2.2.1, x.2.2.2.2.2)))))
noncomputable def cx_plaitlaw04_RingGrows_11 : Ctx := { tb := mkTb T2.tbl, fx := [(20, [], Spec.shp si_plaitlaw04_few so_plaitlaw04_few F_plaitlaw04_few), (16, [], Spec.shp si_ring_Items so_ring_Items F_ring_Items), (21, [], Spec.shp si_ring_Grow so_ring_Grow F_ring_Grow), (19, [], Spec.shp si_plaitlaw04_alive so_plaitlaw04_alive F_plaitlaw04_alive), (22, [], Spec.shp si_plaitlaw04_empty so_plaitlaw04_empty F_plaitlaw04_empty), (17, [], Spec.shp si_plaitref01_Rows so_plaitref01_Rows F_plaitref01_Rows), (14, [], Spec.shp si_ring_Push so_ring_Push F_ring_Push)], sum := [], nt := 148, pin := 0, nr := true, ys := [] }
theorem L_plaitlaw04_RingGrows_11_ok : CSound Try.prog ⟨148, 0, true⟩ (.loop (loopOf 11 Try.f4)) (pieceSpec sh_plaitlaw04_RingGrows_11 es_plaitlaw04_RingGrows_11 (loop L_plaitlaw04_RingGrows_11)) :=
  loop_sound (C := cx_plaitlaw04_RingGrows_11) (ctxOK mixed tbl_ok rfl ⟨F_plaitlaw04_few_ok, F_ring_Items_ok, F_ring_Grow_ok, F_plaitlaw04_alive_ok, F_plaitlaw04_empty_ok, F_plaitref01_Rows_ok, F_ring_Push_ok, trivial⟩ trivial) (SumOK.of trivial) sh_plaitlaw04_RingGrows_11 es_plaitlaw04_RingGrows_11 rfl rfl L_plaitlaw04_RingGrows_11 (fun x => by kernel_rfl)
abbrev si_ring_Pop : Shape := { sl := [(0, (.hole (.pair (.int .i64) (.pair (.int .i64) (.pair (.slice (.int .i64)) (.int .i64))))))], bl := [], ts := [(.pair (.int .i64) (.pair (.int .i64) (.pair (.slice (.int .i64)) (.int .i64))))], pin := 0 }
abbrev so_ring_Pop : Shape := { sl := [(0, (.hole (.pair (.int .i64) (.pair (.int .i64) (.pair (.slice (.int .i64)) (.int .i64)))))), (1, (.hole (.int .i64))), (2, (.hole (.int .i64)))], bl := [], ts := [(.pair (.int .i64) (.pair (.int .i64) (.pair (.slice (.int .i64)) (.int .i64)))), (.int .i64), (.int .i64)], pin := 0 }
noncomputable def F_ring_Pop (x : ((Int × (Int × (List (Int) × Int))))) : Option ((Int × (Int × (List (Int) × Int))) × Int × Int) :=
  ((F_ring_Right x)).bind fun r11 =>
  bif (Bool.not r11) then
    some (((0 : Int), ((0 : Int), (([] : List Int), (0 : Int)))), ((0 : Int), (1 : Int)))
  else
    bif (x.2.2.2 == (0 : Int)) then
      some (((0 : Int), ((0 : Int), (([] : List Int), (0 : Int)))), ((0 : Int), (4 : Int)))
    else
      ((F_ring_places_at (x, (0 : Int)))).bind fun r12 =>
      bif (Go.Proofs.Ytegbkaaibgdheaa.VX.inb r12 (List.length x.2.2.1)) then
        ((F_ring_places_at (x, (1 : Int)))).bind fun r13 =>
        some ((x.1, (r13, (x.2.2.1, (Go.IntKind.wrap Go.IntKind.i64 (x.2.2.2 - (1 : Int)))))), ((Go.Proofs.Ytegbkaaibgdheaa.VX.getAt (0 : Int) x.2.2.1 (Go.Proofs.Ytegbkaaibgdheaa.VX.toN r12)), (0 : Int)))
      else
        none
noncomputable def cx_ring_Pop : Ctx := { tb := mkTb T2.tbl, fx := [(18, [], Spec.shp si_ring_Right so_ring_Right F_ring_Right), (59, [], Spec.shp si_ring_places_at so_ring_places_at F_ring_places_at)], sum := [], nt := 34, pin := 0, nr := true, ys := [] }
theorem F_ring_Pop_ok : Sound Try.prog 15 (Spec.shp si_ring_Pop so_ring_Pop F_ring_Pop) :=
  Sound.shp (C := cx_ring_Pop) (fn := Try.f15) (by kernel_rfl) (c := bodyOf Try.f15) (by kernel_rfl) (by decide) (ctxOK mixed tbl_ok rfl ⟨F_ring_Right_ok, F_ring_places_at_ok, trivial⟩ trivial) (SumOK.of trivial) (by kernel_rfl) si_ring_Pop so_ring_Pop rfl (by decide) (by decide) rfl (by decide) rfl F_ring_Pop (fun x => by kernel_rfl)
noncomputable def F_plaitlaw04_RingGrows (x : ((Int × (Int × (List (Int) × Int))) × Int × Int)) : Option (Bool) :=
  ((F_plaitlaw04_few x.1)).bind fun r1 =>
  ((F_ring_Items r1)).bind fun r2 =>
  ((F_ring_Grow (r1, x.2.1))).bind fun r3 =>
  bif (r2.2 != (0 : Int)) then
    ((F_plaitlaw04_alive ())).bind fun r4 =>
    bif r4 then
      ((F_plaitlaw04_empty r3.1)).bind fun r5 =>
      some r5
    else
      some false
  else
    bif (r3.2 != (0 : Int)) then
      ((F_plaitlaw04_alive ())).bind fun r4 =>
      bif r4 then
        ((F_plaitlaw04_empty r3.1)).bind fun r5 =>
        some r5
      else
        some false
    else
      ((F_ring_Items r3.1)).bind fun r4 =>
      bif (r4.2 != (0 : Int)) then
        some false
      else
        ((F_plaitref01_Rows (r2.1, r4.1))).bind fun r5 =>
        bif (Bool.not r5) then
          some false
        else
          bif (decide ((((List.length r2.1) : Nat) : Int) > x.2.1)) then
            some false
          else
            bif (decide (x.2.1 > (8 : Int))) then
              some false
            else
              ((F_plaitlaw04_alive ())).bind fun r6 =>
              bif (Bool.not r6) then
                some false
              else
                ((loop L_plaitlaw04_RingGrows_11 (x.2.1, (x.2.2, (r2.1, ((Go.IntKind.wrap Go.IntKind.i64 (x.2.1 - (((List.length r2.1) : Nat) : Int))), ((0 : Int), r3.1))))))).bind fun r7 =>
                match r7 with
                | .inl y8 =>
                  some y8
                | .inr y8 =>
                  ((F_ring_Push (y8.2.2.2, y8.2.1))).bind fun r9 =>
                  ((F_ring_Pop y8.2.2.2)).bind fun r10 =>
                  bif (y8.1 == (0 : Int)) then
                    bif (r9.2 == (5 : Int)) then
                      some (r10.2.2 == (4 : Int))
                    else
                      some false
                  else
                    ((F_ring_Items r10.1)).bind fun r11 =>
                    bif (decide ((((List.length y8.2.2.1) : Nat) : Int) > (0 : Int))) then
                      bif (Go.Proofs.Ytegbkaaibgdheaa.VX.inb (0 : Int) (List.length y8.2.2.1)) then
                        bif (r9.2 == (5 : Int)) then
                          bif (r10.2.2 == (0 : Int)) then
                            bif (r11.2 == (0 : Int)) then
                              bif (r10.2.1 == (Go.Proofs.Ytegbkaaibgdheaa.VX.getAt (0 : Int) y8.2.2.1 (Go.Proofs.Ytegbkaaibgdheaa.VX.toN (0 : Int)))) then
                                some ((((List.length r11.1) : Nat) : Int) == (Go.IntKind.wrap Go.IntKind.i64 (y8.1 - (1 : Int))))
                              else
                                some false
                            else
                              some false
                          else
                            some false
                        else
                          some false
                      else
                        none
                    else
                      bif (r9.2 == (5 : Int)) then
                        bif (r10.2.2 == (0 : Int)) then
                          bif (r11.2 == (0 : Int)) then
                            bif (r10.2.1 == y8.2.1) then
                              some ((((List.length r11.1) : Nat) : Int) == (Go.IntKind.wrap Go.IntKind.i64 (y8.1 - (1 : Int))))
                            else
                              some false
                          else
                            some false
                        else
                          some false
                      else
                        some false
noncomputable def cx_plaitlaw04_RingGrows : Ctx := { tb := mkTb T2.tbl, fx := [(20, [], Spec.shp si_plaitlaw04_few so_plaitlaw04_few F_plaitlaw04_few), (16, [], Spec.shp si_ring_Items so_ring_Items F_ring_Items), (21, [], Spec.shp si_ring_Grow so_ring_Grow F_ring_Grow), (19, [], Spec.shp si_plaitlaw04_alive so_plaitlaw04_alive F_plaitlaw04_alive), (22, [], Spec.shp si_plaitlaw04_empty so_plaitlaw04_empty F_plaitlaw04_empty), (17, [], Spec.shp si_plaitref01_Rows so_plaitref01_Rows F_plaitref01_Rows), (14, [], Spec.shp si_ring_Push so_ring_Push F_ring_Push), (15, [], Spec.shp si_ring_Pop so_ring_Pop F_ring_Pop)], sum := [(0, 11, pieceSpec sh_plaitlaw04_RingGrows_11 es_plaitlaw04_RingGrows_11 (loop L_plaitlaw04_RingGrows_11))], nt := 148, pin := 0, nr := true, ys := [] }
theorem F_plaitlaw04_RingGrows_ok : Sound Try.prog 4 (Spec.pure [(.pair (.int .i64) (.pair (.int .i64) (.pair (.slice (.int .i64)) (.int .i64)))), (.int .i64), (.int .i64)] [.bool] F_plaitlaw04_RingGrows) :=
  Sound.pure (C := cx_plaitlaw04_RingGrows) (fn := Try.f4) (by kernel_rfl) (c := bodyOf Try.f4) (by kernel_rfl) (by decide) (ctxOK mixed tbl_ok rfl ⟨F_plaitlaw04_few_ok, F_ring_Items_ok, F_ring_Grow_ok, F_plaitlaw04_alive_ok, F_plaitlaw04_empty_ok, F_plaitref01_Rows_ok, F_ring_Push_ok, F_ring_Pop_ok, trivial⟩) (SumOK.of ⟨(by first | exact pieces_one (d := .loop (loopOf 11 Try.f4)) (by kernel_rfl) L_plaitlaw04_RingGrows_11_ok | exact pieces_none (by kernel_rfl)), trivial⟩) (by kernel_rfl) rfl _ _ (by decide) _ (fun x => by kernel_rfl)
abbrev si_ring_New : Shape := { sl := [(0, (.hole (.int .i64)))], bl := [], ts := [(.int .i64)], pin := 0 }
abbrev so_ring_New : Shape := { sl := [(0, (.hole (.pair (.int .i64) (.pair (.int .i64) (.pair (.slice (.int .i64)) (.int .i64)))))), (1, (.hole (.int .i64)))], bl := [], ts := [(.pair (.int .i64) (.pair (.int .i64) (.pair (.slice (.int .i64)) (.int .i64)))), (.int .i64)], pin := 0 }
noncomputable def F_ring_New (x : (Int)) : Option ((Int × (Int × (List (Int) × Int))) × Int) :=
  bif (decide (x < (0 : Int))) then
    some (((0 : Int), ((0 : Int), (([] : List Int), (0 : Int)))), (2 : Int))
  else
    bif (decide (x > (8 : Int))) then
      some (((0 : Int), ((0 : Int), (([] : List Int), (0 : Int)))), (2 : Int))
    else
      bif (Go.Proofs.Ytegbkaaibgdheaa.VX.mkOK x x) then
        some ((x, ((0 : Int), ((List.replicate (Go.Proofs.Ytegbkaaibgdheaa.VX.toN x) (0 : Int)), (0 : Int)))), (0 : Int))
      else
        none
noncomputable def cx_ring_New : Ctx := { tb := mkTb T2.tbl, fx := [], sum := [], nt := 15, pin := 0, nr := true, ys := [] }
theorem F_ring_New_ok : Sound Try.prog 13 (Spec.shp si_ring_New so_ring_New F_ring_New) :=
  Sound.shp (C := cx_ring_New) (fn := Try.f13) (by kernel_rfl) (c := bodyOf Try.f13) (by kernel_rfl) (by decide) (ctxOK mixed tbl_ok rfl trivial trivial) (SumOK.of trivial) (by kernel_rfl) si_ring_New so_ring_New rfl (by decide) (by decide) rfl (by decide) rfl F_ring_New (fun x => by kernel_rfl)
abbrev si_plaitref04_Right : Shape := { sl := [(0, (.hole (.pair (.int .i64) (.pair (.int .i64) (.pair (.slice (.int .i64)) (.int .i64))))))], bl := [], ts := [(.pair (.int .i64) (.pair (.int .i64) (.pair (.slice (.int .i64)) (.int .i64))))], pin := 0 }
abbrev so_plaitref04_Right : Shape := { sl := [(0, (.hole .bool))], bl := [], ts := [.bool], pin := 0 }
noncomputable def F_plaitref04_Right (x : ((Int × (Int × (List (Int) × Int))))) : Option (Bool) :=
  bif (decide (x.1 < (0 : Int))) then
    some false
  else
    bif (decide (x.1 > (8 : Int))) then
      some false
    else
      bif ((((List.length x.2.2.1) : Nat) : Int) != x.1) then
        some false
      else
        bif (decide (x.2.2.2 < (0 : Int))) then
          some false
        else
          bif (decide (x.2.2.2 > x.1)) then
            some false
          else
            bif (x.2.1 == (0 : Int)) then
              some true
            else
              bif (decide (x.2.1 > (0 : Int))) then
                some (decide (x.2.1 < x.1))
              else
                some false
noncomputable def cx_plaitref04_Right : Ctx := { tb := mkTb T2.tbl, fx := [], sum := [], nt := 46, pin := 0, nr := true, ys := [] }
theorem F_plaitref04_Right_ok : Sound Try.prog 30 (Spec.shp si_plaitref04_Right so_plaitref04_Right F_plaitref04_Right) :=
  Sound.shp (C := cx_plaitref04_Right) (fn := Try.f30) (by kernel_rfl) (c := bodyOf Try.f30) (by kernel_rfl) (by decide) (ctxOK mixed tbl_ok rfl trivial trivial) (SumOK.of trivial) (by kernel_rfl) si_plaitref04_Right so_plaitref04_Right rfl (by decide) (by decide) rfl (by decide) rfl F_plaitref04_Right (fun x => by kernel_rfl)
abbrev sh_plaitref04_Items_4 : Shape := { sl := [(1, (.ptr 0 [])), (3, (.sl 1)), (4, (.hole (.int .i64)))], bl := [.var (.hole (.pair (.int .i64) (.pair (.int .i64) (.pair (.slice (.int .i64)) (.int .i64))))), .row (.int .i64)], ts := [(.int .i64), (.pair (.int .i64) (.pair (.int .i64) (.pair (.slice (.int .i64)) (.int .i64)))), (.slice (.int .i64))], pin := 0 }
abbrev es_plaitref04_Items_4 : List (ETag × Shape) := [(.exit 0, { sl := [(3, (.sl 0))], bl := [.row (.int .i64)], ts := [(.slice (.int .i64))], pin := 0 })]
noncomputable def L_plaitref04_Items_4 (x : (Int × (Int × (Int × (List (Int) × Int))) × List (Int))) : Option ((Int × (Int × (Int × (List (Int) × Int))) × List (Int)) ⊕ ((List (Int)))) :=
  bif (decide (x.1 < x.2.1.2.2.2)) then
    bif (decide ((Go.IntKind.wrap Go.IntKind.i64 (x.2.1.2.1 + x.1)) ≥ x.2.1.1)) then
      bif (Go.Proofs.Ytegbkaaibgdheaa.VX.inb (Go.IntKind.wrap Go.IntKind.i64 ((Go.IntKind.wrap Go.IntKind.i64 (x.2.1.2.1 + x.1)) - x.2.1.1)) (List.length x.2.1.2.2.1)) then
        bif (Go.Proofs.Ytegbkaaibgdheaa.VX.fits ((List.length x.2.2) + (List.length ((Go.Proofs.Ytegbkaaibgdheaa.VX.getAt (0 : Int) x.2.1.2.2.1 (Go.Proofs.Ytegbkaaibgdheaa.VX.toN (Go.IntKind.wrap Go.IntKind.i64 ((Go.IntKind.wrap Go.IntKind.i64 (x.2.1.2.1 + x.1)) - x.2.1.1)))) :: ([] : List Int))))) then
          some (.inl ((Go.IntKind.wrap Go.IntKind.i64 (x.1 + (1 : Int))), (x.2.1, (x.2.2 ++ ((Go.Proofs.Ytegbkaaibgdheaa.VX.getAt (0 : Int) x.2.1.2.2.1 (Go.Proofs.Ytegbkaaibgdheaa.VX.toN (Go.IntKind.wrap Go.IntKind.i64 ((Go.IntKind.wrap Go.IntKind.i64 (x.2.1.2.1 + x.1)) - x.2.1.1)))) :: ([] : List Int))))))
        else
          none
      else
        none
    else
      bif (Go.Proofs.Ytegbkaaibgdheaa.VX.inb (Go.IntKind.wrap Go.IntKind.i64 (x.2.1.2.1 + x.1)) (List.length x.2.1.2.2.1)) then
        bif (Go.Proofs.Ytegbkaaibgdheaa.VX.fits ((List.length x.2.2) + (List.length ((Go.Proofs.Ytegbkaaibgdheaa.VX.getAt (0 : Int) x.2.1.2.2.1 (Go.Proofs.Ytegbkaaibgdheaa.VX.toN (Go.IntKind.wrap Go.IntKind.i64 (x.2.1.2.1 + x.1)))) :: ([] : List Int))))) then
          some (.inl ((Go.IntKind.wrap Go.IntKind.i64 (x.1 + (1 : Int))), (x.2.1, (x.2.2 ++ ((Go.Proofs.Ytegbkaaibgdheaa.VX.getAt (0 : Int) x.2.1.2.2.1 (Go.Proofs.Ytegbkaaibgdheaa.VX.toN (Go.IntKind.wrap Go.IntKind.i64 (x.2.1.2.1 + x.1)))) :: ([] : List Int))))))
        else
          none
      else
        none
  else
    some (.inr x.2.2)
noncomputable def cx_plaitref04_Items_4 : Ctx := { tb := mkTb T2.tbl, fx := [], sum := [], nt := 34, pin := 0, nr := true, ys := [] }
theorem L_plaitref04_Items_4_ok : CSound Try.prog ⟨34, 0, true⟩ (.loop (loopOf 4 Try.f32)) (pieceSpec sh_plaitref04_Items_4 es_plaitref04_Items_4 (loop L_plaitref04_Items_4)) :=
  loop_sound (C := cx_plaitref04_Items_4) (ctxOK mixed tbl_ok rfl trivial trivial) (SumOK.of trivial) sh_plaitref04_Items_4 es_plaitref04_Items_4 rfl rfl L_plaitref04_Items_4 (fun x => by kernel_rfl)
abbrev si_plaitref04_Items : Shape := { sl := [(0, (.hole (.pair (.int .i64) (.pair (.int .i64) (.pair (.slice (.int .i64)) (.int .i64))))))], bl := [], ts := [(.pair (.int .i64) (.pair (.int .i64) (.pair (.slice (.int .i64)) (.int .i64))))], pin := 0 }
abbrev so_plaitref04_Items : Shape := { sl := [(0, (.hole (.slice (.int .i64))))], bl := [], ts := [(.slice (.int .i64))], pin := 0 }
noncomputable def F_plaitref04_Items (x : ((Int × (Int × (List (Int) × Int))))) : Option (List (Int)) :=
  ((loop L_plaitref04_Items_4 ((0 : Int), (x, ([] : List Int))))).bind fun r12 =>
  some r12
noncomputable def cx_plaitref04_Items : Ctx := { tb := mkTb T2.tbl, fx := [], sum := [(0, 4, pieceSpec sh_plaitref04_Items_4 es_plaitref04_Items_4 (loop L_plaitref04_Items_4))], nt := 34, pin := 0, nr := true, ys := [] }
theorem F_plaitref04_Items_ok : Sound Try.prog 32 (Spec.shp si_plaitref04_Items so_plaitref04_Items F_plaitref04_Items) :=
  Sound.shp (C := cx_plaitref04_Items) (fn := Try.f32) (by kernel_rfl) (c := bodyOf Try.f32) (by kernel_rfl) (by decide) (ctxOK mixed tbl_ok rfl trivial trivial) (SumOK.of ⟨(by first | exact pieces_one (d := .loop (loopOf 4 Try.f32)) (by kernel_rfl) L_plaitref04_Items_4_ok | exact pieces_none (by kernel_rfl)), trivial⟩) (by kernel_rfl) si_plaitref04_Items so_plaitref04_Items rfl (by decide) (by decide) rfl (by decide) rfl F_plaitref04_Items (fun x => by kernel_rfl)
abbrev sh_plaitref04_Is_5 : Shape := { sl := [(2, (.hole (.slice (.int .i64)))), (26, (.hole (.slice (.int .i64)))), (27, (.hole (.int .i64))), (28, (.hole (.int .i64)))], bl := [], ts := [(.slice (.int .i64)), (.slice (.int .i64)), (.int .i64), (.int .i64)], pin := 0 }
abbrev es_plaitref04_Is_5 : List (ETag × Shape) := [(.ret, { sl := [(6, (.hole .bool))], bl := [], ts := [.bool], pin := 0 }), (.exit 0, { sl := [], bl := [], ts := [], pin := 0 })]
noncomputable def L_plaitref04_Is_5 (x : (List (Int) × List (Int) × Int × Int)) : Option ((List (Int) × List (Int) × Int × Int) ⊕ ((Bool) ⊕ Unit)) :=
  bif (decide (x.2.2.2 < x.2.2.1)) then
    bif (Go.Proofs.Ytegbkaaibgdheaa.VX.inb x.2.2.2 (List.length x.2.1)) then
      bif (Go.Proofs.Ytegbkaaibgdheaa.VX.inb x.2.2.2 (List.length x.1)) then
        bif ((Go.Proofs.Ytegbkaaibgdheaa.VX.getAt (0 : Int) x.2.1 (Go.Proofs.Ytegbkaaibgdheaa.VX.toN x.2.2.2)) != (Go.Proofs.Ytegbkaaibgdheaa.VX.getAt (0 : Int) x.1 (Go.Proofs.Ytegbkaaibgdheaa.VX.toN x.2.2.2))) then
          some (.inr (.inl false))
        else
          some (.inl (x.1, (x.2.1, (x.2.2.1, (Go.IntKind.wrap Go.IntKind.i64 (x.2.2.2 + (1 : Int)))))))
      else
        none
    else
      none
  else
    some (.inr (.inr ()))
noncomputable def cx_plaitref04_Is_5 : Ctx := { tb := mkTb T2.tbl, fx := [(30, [], Spec.shp si_plaitref04_Right so_plaitref04_Right F_plaitref04_Right), (32, [], Spec.shp si_plaitref04_Items so_plaitref04_Items F_plaitref04_Items)], sum := [], nt := 40, pin := 0, nr := true, ys := [] }
theorem L_plaitref04_Is_5_ok : CSound Try.prog ⟨40, 0, true⟩ (.loop (loopOf 5 Try.f31)) (pieceSpec sh_plaitref04_Is_5 es_plaitref04_Is_5 (loop L_plaitref04_Is_5)) :=
  loop_sound (C := cx_plaitref04_Is_5) (ctxOK mixed tbl_ok rfl ⟨F_plaitref04_Right_ok, F_plaitref04_Items_ok, trivial⟩ trivial) (SumOK.of trivial) sh_plaitref04_Is_5 es_plaitref04_Is_5 rfl rfl L_plaitref04_Is_5 (fun x => by kernel_rfl)
abbrev si_plaitref04_Is : Shape := { sl := [(0, (.hole (.pair (.int .i64) (.pair (.int .i64) (.pair (.slice (.int .i64)) (.int .i64)))))), (1, (.hole (.int .i64))), (2, (.hole (.slice (.int .i64))))], bl := [], ts := [(.pair (.int .i64) (.pair (.int .i64) (.pair (.slice (.int .i64)) (.int .i64)))), (.int .i64), (.slice (.int .i64))], pin := 0 }
abbrev so_plaitref04_Is : Shape := { sl := [(0, (.hole .bool))], bl := [], ts := [.bool], pin := 0 }
noncomputable def F_plaitref04_Is (x : ((Int × (Int × (List (Int) × Int))) × Int × List (Int))) : Option (Bool) :=
  ((F_plaitref04_Right x.1)).bind fun r16 =>
  bif (Bool.not r16) then
    some false
  else
    bif (x.1.1 != x.2.1) then
      some false
    else
      bif (x.1.2.2.2 != (((List.length x.2.2) : Nat) : Int)) then
        some false
      else
        ((F_plaitref04_Items x.1)).bind fun r17 =>
        ((loop L_plaitref04_Is_5 (x.2.2, (r17, ((((List.length r17) : Nat) : Int), (0 : Int)))))).bind fun r18 =>
        match r18 with
        | .inl y19 =>
          some y19
        | .inr y19 =>
          some true
noncomputable def cx_plaitref04_Is : Ctx := { tb := mkTb T2.tbl, fx := [(30, [], Spec.shp si_plaitref04_Right so_plaitref04_Right F_plaitref04_Right), (32, [], Spec.shp si_plaitref04_Items so_plaitref04_Items F_plaitref04_Items)], sum := [(0, 5, pieceSpec sh_plaitref04_Is_5 es_plaitref04_Is_5 (loop L_plaitref04_Is_5))], nt := 40, pin := 0, nr := true, ys := [] }
theorem F_plaitref04_Is_ok : Sound Try.prog 31 (Spec.shp si_plaitref04_Is so_plaitref04_Is F_plaitref04_Is) :=
  Sound.shp (C := cx_plaitref04_Is) (fn := Try.f31) (by kernel_rfl) (c := bodyOf Try.f31) (by kernel_rfl) (by decide) (ctxOK mixed tbl_ok rfl ⟨F_plaitref04_Right_ok, F_plaitref04_Items_ok, trivial⟩ trivial) (SumOK.of ⟨(by first | exact pieces_one (d := .loop (loopOf 5 Try.f31)) (by kernel_rfl) L_plaitref04_Is_5_ok | exact pieces_none (by kernel_rfl)), trivial⟩) (by kernel_rfl) si_plaitref04_Is so_plaitref04_Is rfl (by decide) (by decide) rfl (by decide) rfl F_plaitref04_Is (fun x => by kernel_rfl)
noncomputable def F_plaitlaw04_RingTells (x : ((Int × (Int × (List (Int) × Int))) × Int × Int)) : Option (Bool) :=
  ((F_plaitlaw04_few x.1)).bind fun r1 =>
  ((F_ring_New x.2.1)).bind fun r2 =>
  ((F_ring_Push (r1, x.2.2))).bind fun r3 =>
  ((F_ring_Pop r1)).bind fun r4 =>
  ((F_ring_Items r1)).bind fun r5 =>
  ((F_ring_Grow (r1, x.2.1))).bind fun r6 =>
  ((F_plaitref04_Right r1)).bind fun r7 =>
  ((F_ring_Right r1)).bind fun r8 =>
  bif (Bool.not (Go.Proofs.Ytegbkaaibgdheaa.VX.Ty.beq Go.Proofs.Ytegbkaaibgdheaa.VX.Ty.bool r8 r7)) then
    some false
  else
    ((F_plaitlaw04_alive ())).bind fun r9 =>
    bif (Bool.not r9) then
      some false
    else
      bif (decide (x.2.1 < (0 : Int))) then
        bif (r2.2 != (2 : Int)) then
          some false
        else
          ((F_plaitlaw04_empty r2.1)).bind fun r10 =>
          bif (Bool.not r10) then
            some false
          else
            bif (Bool.not r7) then
              bif (r3.2 == (1 : Int)) then
                bif (r4.2.2 == (1 : Int)) then
                  bif (r5.2 == (1 : Int)) then
                    bif (r6.2 == (1 : Int)) then
                      ((F_plaitlaw04_empty r3.1)).bind fun r11 =>
                      bif r11 then
                        ((F_plaitlaw04_empty r4.1)).bind fun r12 =>
                        bif r12 then
                          ((F_plaitlaw04_empty r6.1)).bind fun r13 =>
                          bif r13 then
                            bif (r4.2.1 == (0 : Int)) then
                              some ((((List.length r5.1) : Nat) : Int) == (0 : Int))
                            else
                              some false
                          else
                            some false
                        else
                          some false
                      else
                        some false
                    else
                      some false
                  else
                    some false
                else
                  some false
              else
                some false
            else
              ((F_plaitref04_Items r1)).bind fun r11 =>
              bif (r5.2 != (0 : Int)) then
                some false
              else
                ((F_plaitref01_Rows (r5.1, r11))).bind fun r12 =>
                bif (Bool.not r12) then
                  some false
                else
                  bif ((((List.length r11) : Nat) : Int) == r1.1) then
                    bif (r3.2 != (5 : Int)) then
                      some false
                    else
                      ((F_plaitlaw04_empty r3.1)).bind fun r13 =>
                      bif (Bool.not r13) then
                        some false
                      else
                        bif ((((List.length r11) : Nat) : Int) == (0 : Int)) then
                          bif (r4.2.2 != (4 : Int)) then
                            some false
                          else
                            bif (r4.2.1 != (0 : Int)) then
                              some false
                            else
                              ((F_plaitlaw04_empty r4.1)).bind fun r14 =>
                              bif (Bool.not r14) then
                                some false
                              else
                                bif (decide (x.2.1 < (((List.length r11) : Nat) : Int))) then
                                  bif (r6.2 == (2 : Int)) then
                                    ((F_plaitlaw04_empty r6.1)).bind fun r15 =>
                                    some r15
                                  else
                                    some false
                                else
                                  bif (decide (x.2.1 > (8 : Int))) then
                                    bif (r6.2 == (2 : Int)) then
                                      ((F_plaitlaw04_empty r6.1)).bind fun r15 =>
                                      some r15
                                    else
                                      some false
                                  else
                                    bif (r6.2 == (0 : Int)) then
                                      ((F_plaitref04_Is (r6.1, (x.2.1, r11)))).bind fun r15 =>
                                      some r15
                                    else
                                      some false
                        else
                          bif (r4.2.2 != (0 : Int)) then
                            some false
                          else
                            bif (Go.Proofs.Ytegbkaaibgdheaa.VX.inb (0 : Int) (List.length r11)) then
                              bif (r4.2.1 != (Go.Proofs.Ytegbkaaibgdheaa.VX.getAt (0 : Int) r11 (Go.Proofs.Ytegbkaaibgdheaa.VX.toN (0 : Int)))) then
                                some false
                              else
                                bif (Go.Proofs.Ytegbkaaibgdheaa.VX.sub3 (1 : Int) (((List.length r11) : Nat) : Int) (List.length r11)) then
                                  ((F_plaitref04_Is (r4.1, (r1.1, (Go.Proofs.Ytegbkaaibgdheaa.VX.cut r11 (Go.Proofs.Ytegbkaaibgdheaa.VX.toN (1 : Int)) ((Go.Proofs.Ytegbkaaibgdheaa.VX.toN (((List.length r11) : Nat) : Int)) - (Go.Proofs.Ytegbkaaibgdheaa.VX.toN (1 : Int)))))))).bind fun r14 =>
                                  bif (Bool.not r14) then
                                    some false
                                  else
                                    bif (decide (x.2.1 < (((List.length r11) : Nat) : Int))) then
                                      bif (r6.2 == (2 : Int)) then
                                        ((F_plaitlaw04_empty r6.1)).bind fun r15 =>
                                        some r15
                                      else
                                        some false
                                    else
                                      bif (decide (x.2.1 > (8 : Int))) then
                                        bif (r6.2 == (2 : Int)) then
                                          ((F_plaitlaw04_empty r6.1)).bind fun r15 =>
                                          some r15
                                        else
                                          some false
                                      else
                                        bif (r6.2 == (0 : Int)) then
                                          ((F_plaitref04_Is (r6.1, (x.2.1, r11)))).bind fun r15 =>
                                          some r15
                                        else
                                          some false
                                else
                                  none
                            else
                              none
                  else
                    bif (r3.2 != (0 : Int)) then
                      some false
                    else
                      bif (Go.Proofs.Ytegbkaaibgdheaa.VX.fits ((List.length ([] : List Int)) + (List.length r11))) then
                        bif (Go.Proofs.Ytegbkaaibgdheaa.VX.fits ((List.length (([] : List Int) ++ r11)) + (List.length (x.2.2 :: ([] : List Int))))) then
                          ((F_plaitref04_Is (r3.1, (r1.1, ((([] : List Int) ++ r11) ++ (x.2.2 :: ([] : List Int))))))).bind fun r13 =>
                          bif (Bool.not r13) then
                            some false
                          else
                            bif ((((List.length r11) : Nat) : Int) == (0 : Int)) then
                              bif (r4.2.2 != (4 : Int)) then
                                some false
                              else
                                bif (r4.2.1 != (0 : Int)) then
                                  some false
                                else
                                  ((F_plaitlaw04_empty r4.1)).bind fun r14 =>
                                  bif (Bool.not r14) then
                                    some false
                                  else
                                    bif (decide (x.2.1 < (((List.length r11) : Nat) : Int))) then
                                      bif (r6.2 == (2 : Int)) then
                                        ((F_plaitlaw04_empty r6.1)).bind fun r15 =>
                                        some r15
                                      else
                                        some false
                                    else
                                      bif (decide (x.2.1 > (8 : Int))) then
                                        bif (r6.2 == (2 : Int)) then
                                          ((F_plaitlaw04_empty r6.1)).bind fun r15 =>
                                          some r15
                                        else
                                          some false
                                      else
                                        bif (r6.2 == (0 : Int)) then
                                          ((F_plaitref04_Is (r6.1, (x.2.1, r11)))).bind fun r15 =>
                                          some r15
                                        else
                                          some false
                            else
                              bif (r4.2.2 != (0 : Int)) then
                                some false
                              else
                                bif (Go.Proofs.Ytegbkaaibgdheaa.VX.inb (0 : Int) (List.length r11)) then
                                  bif (r4.2.1 != (Go.Proofs.Ytegbkaaibgdheaa.VX.getAt (0 : Int) r11 (Go.Proofs.Ytegbkaaibgdheaa.VX.toN (0 : Int)))) then
                                    some false
                                  else
                                    bif (Go.Proofs.Ytegbkaaibgdheaa.VX.sub3 (1 : Int) (((List.length r11) : Nat) : Int) (List.length r11)) then
                                      ((F_plaitref04_Is (r4.1, (r1.1, (Go.Proofs.Ytegbkaaibgdheaa.VX.cut r11 (Go.Proofs.Ytegbkaaibgdheaa.VX.toN (1 : Int)) ((Go.Proofs.Ytegbkaaibgdheaa.VX.toN (((List.length r11) : Nat) : Int)) - (Go.Proofs.Ytegbkaaibgdheaa.VX.toN (1 : Int)))))))).bind fun r14 =>
                                      bif (Bool.not r14) then
                                        some false
                                      else
                                        bif (decide (x.2.1 < (((List.length r11) : Nat) : Int))) then
                                          bif (r6.2 == (2 : Int)) then
                                            ((F_plaitlaw04_empty r6.1)).bind fun r15 =>
                                            some r15
                                          else
                                            some false
                                        else
                                          bif (decide (x.2.1 > (8 : Int))) then
                                            bif (r6.2 == (2 : Int)) then
                                              ((F_plaitlaw04_empty r6.1)).bind fun r15 =>
                                              some r15
                                            else
                                              some false
                                          else
                                            bif (r6.2 == (0 : Int)) then
                                              ((F_plaitref04_Is (r6.1, (x.2.1, r11)))).bind fun r15 =>
                                              some r15
                                            else
                                              some false
                                    else
                                      none
                                else
                                  none
                        else
                          none
                      else
                        none
      else
        bif (decide (x.2.1 > (8 : Int))) then
          bif (r2.2 != (2 : Int)) then
            some false
          else
            ((F_plaitlaw04_empty r2.1)).bind fun r10 =>
            bif (Bool.not r10) then
              some false
            else
              bif (Bool.not r7) then
                bif (r3.2 == (1 : Int)) then
                  bif (r4.2.2 == (1 : Int)) then
                    bif (r5.2 == (1 : Int)) then
                      bif (r6.2 == (1 : Int)) then
                        ((F_plaitlaw04_empty r3.1)).bind fun r11 =>
                        bif r11 then
                          ((F_plaitlaw04_empty r4.1)).bind fun r12 =>
                          bif r12 then
                            ((F_plaitlaw04_empty r6.1)).bind fun r13 =>
                            bif r13 then
                              bif (r4.2.1 == (0 : Int)) then
                                some ((((List.length r5.1) : Nat) : Int) == (0 : Int))
                              else
                                some false
                            else
                              some false
                          else
                            some false
                        else
                          some false
                      else
                        some false
                    else
                      some false
                  else
                    some false
                else
                  some false
              else
                ((F_plaitref04_Items r1)).bind fun r11 =>
                bif (r5.2 != (0 : Int)) then
                  some false
                else
                  ((F_plaitref01_Rows (r5.1, r11))).bind fun r12 =>
                  bif (Bool.not r12) then
                    some false
                  else
                    bif ((((List.length r11) : Nat) : Int) == r1.1) then
                      bif (r3.2 != (5 : Int)) then
                        some false
                      else
                        ((F_plaitlaw04_empty r3.1)).bind fun r13 =>
                        bif (Bool.not r13) then
                          some false
                        else
                          bif ((((List.length r11) : Nat) : Int) == (0 : Int)) then
                            bif (r4.2.2 != (4 : Int)) then
                              some false
                            else
                              bif (r4.2.1 != (0 : Int)) then
                                some false
                              else
                                ((F_plaitlaw04_empty r4.1)).bind fun r14 =>
                                bif (Bool.not r14) then
                                  some false
                                else
                                  bif (decide (x.2.1 < (((List.length r11) : Nat) : Int))) then
                                    bif (r6.2 == (2 : Int)) then
                                      ((F_plaitlaw04_empty r6.1)).bind fun r15 =>
                                      some r15
                                    else
                                      some false
                                  else
                                    bif (decide (x.2.1 > (8 : Int))) then
                                      bif (r6.2 == (2 : Int)) then
                                        ((F_plaitlaw04_empty r6.1)).bind fun r15 =>
                                        some r15
                                      else
                                        some false
                                    else
                                      bif (r6.2 == (0 : Int)) then
                                        ((F_plaitref04_Is (r6.1, (x.2.1, r11)))).bind fun r15 =>
                                        some r15
                                      else
                                        some false
                          else
                            bif (r4.2.2 != (0 : Int)) then
                              some false
                            else
                              bif (Go.Proofs.Ytegbkaaibgdheaa.VX.inb (0 : Int) (List.length r11)) then
                                bif (r4.2.1 != (Go.Proofs.Ytegbkaaibgdheaa.VX.getAt (0 : Int) r11 (Go.Proofs.Ytegbkaaibgdheaa.VX.toN (0 : Int)))) then
                                  some false
                                else
                                  bif (Go.Proofs.Ytegbkaaibgdheaa.VX.sub3 (1 : Int) (((List.length r11) : Nat) : Int) (List.length r11)) then
                                    ((F_plaitref04_Is (r4.1, (r1.1, (Go.Proofs.Ytegbkaaibgdheaa.VX.cut r11 (Go.Proofs.Ytegbkaaibgdheaa.VX.toN (1 : Int)) ((Go.Proofs.Ytegbkaaibgdheaa.VX.toN (((List.length r11) : Nat) : Int)) - (Go.Proofs.Ytegbkaaibgdheaa.VX.toN (1 : Int)))))))).bind fun r14 =>
                                    bif (Bool.not r14) then
                                      some false
                                    else
                                      bif (decide (x.2.1 < (((List.length r11) : Nat) : Int))) then
                                        bif (r6.2 == (2 : Int)) then
                                          ((F_plaitlaw04_empty r6.1)).bind fun r15 =>
                                          some r15
                                        else
                                          some false
                                      else
                                        bif (decide (x.2.1 > (8 : Int))) then
                                          bif (r6.2 == (2 : Int)) then
                                            ((F_plaitlaw04_empty r6.1)).bind fun r15 =>
                                            some r15
                                          else
                                            some false
                                        else
                                          bif (r6.2 == (0 : Int)) then
                                            ((F_plaitref04_Is (r6.1, (x.2.1, r11)))).bind fun r15 =>
                                            some r15
                                          else
                                            some false
                                  else
                                    none
                              else
                                none
                    else
                      bif (r3.2 != (0 : Int)) then
                        some false
                      else
                        bif (Go.Proofs.Ytegbkaaibgdheaa.VX.fits ((List.length ([] : List Int)) + (List.length r11))) then
                          bif (Go.Proofs.Ytegbkaaibgdheaa.VX.fits ((List.length (([] : List Int) ++ r11)) + (List.length (x.2.2 :: ([] : List Int))))) then
                            ((F_plaitref04_Is (r3.1, (r1.1, ((([] : List Int) ++ r11) ++ (x.2.2 :: ([] : List Int))))))).bind fun r13 =>
                            bif (Bool.not r13) then
                              some false
                            else
                              bif ((((List.length r11) : Nat) : Int) == (0 : Int)) then
                                bif (r4.2.2 != (4 : Int)) then
                                  some false
                                else
                                  bif (r4.2.1 != (0 : Int)) then
                                    some false
                                  else
                                    ((F_plaitlaw04_empty r4.1)).bind fun r14 =>
                                    bif (Bool.not r14) then
                                      some false
                                    else
                                      bif (decide (x.2.1 < (((List.length r11) : Nat) : Int))) then
                                        bif (r6.2 == (2 : Int)) then
                                          ((F_plaitlaw04_empty r6.1)).bind fun r15 =>
                                          some r15
                                        else
                                          some false
                                      else
                                        bif (decide (x.2.1 > (8 : Int))) then
                                          bif (r6.2 == (2 : Int)) then
                                            ((F_plaitlaw04_empty r6.1)).bind fun r15 =>
                                            some r15
                                          else
                                            some false
                                        else
                                          bif (r6.2 == (0 : Int)) then
                                            ((F_plaitref04_Is (r6.1, (x.2.1, r11)))).bind fun r15 =>
                                            some r15
                                          else
                                            some false
                              else
                                bif (r4.2.2 != (0 : Int)) then
                                  some false
                                else
                                  bif (Go.Proofs.Ytegbkaaibgdheaa.VX.inb (0 : Int) (List.length r11)) then
                                    bif (r4.2.1 != (Go.Proofs.Ytegbkaaibgdheaa.VX.getAt (0 : Int) r11 (Go.Proofs.Ytegbkaaibgdheaa.VX.toN (0 : Int)))) then
                                      some false
                                    else
                                      bif (Go.Proofs.Ytegbkaaibgdheaa.VX.sub3 (1 : Int) (((List.length r11) : Nat) : Int) (List.length r11)) then
                                        ((F_plaitref04_Is (r4.1, (r1.1, (Go.Proofs.Ytegbkaaibgdheaa.VX.cut r11 (Go.Proofs.Ytegbkaaibgdheaa.VX.toN (1 : Int)) ((Go.Proofs.Ytegbkaaibgdheaa.VX.toN (((List.length r11) : Nat) : Int)) - (Go.Proofs.Ytegbkaaibgdheaa.VX.toN (1 : Int)))))))).bind fun r14 =>
                                        bif (Bool.not r14) then
                                          some false
                                        else
                                          bif (decide (x.2.1 < (((List.length r11) : Nat) : Int))) then
                                            bif (r6.2 == (2 : Int)) then
                                              ((F_plaitlaw04_empty r6.1)).bind fun r15 =>
                                              some r15
                                            else
                                              some false
                                          else
                                            bif (decide (x.2.1 > (8 : Int))) then
                                              bif (r6.2 == (2 : Int)) then
                                                ((F_plaitlaw04_empty r6.1)).bind fun r15 =>
                                                some r15
                                              else
                                                some false
                                            else
                                              bif (r6.2 == (0 : Int)) then
                                                ((F_plaitref04_Is (r6.1, (x.2.1, r11)))).bind fun r15 =>
                                                some r15
                                              else
                                                some false
                                      else
                                        none
                                  else
                                    none
                          else
                            none
                        else
                          none
        else
          bif (r2.2 != (0 : Int)) then
            some false
          else
            ((F_plaitref04_Is (r2.1, (x.2.1, ([] : List Int))))).bind fun r10 =>
            bif (Bool.not r10) then
              some false
            else
              bif (Bool.not r7) then
                bif (r3.2 == (1 : Int)) then
                  bif (r4.2.2 == (1 : Int)) then
                    bif (r5.2 == (1 : Int)) then
                      bif (r6.2 == (1 : Int)) then
                        ((F_plaitlaw04_empty r3.1)).bind fun r11 =>
                        bif r11 then
                          ((F_plaitlaw04_empty r4.1)).bind fun r12 =>
                          bif r12 then
                            ((F_plaitlaw04_empty r6.1)).bind fun r13 =>
                            bif r13 then
                              bif (r4.2.1 == (0 : Int)) then
                                some ((((List.length r5.1) : Nat) : Int) == (0 : Int))
                              else
                                some false
                            else
                              some false
                          else
                            some false
                        else
                          some false
                      else
                        some false
                    else
                      some false
                  else
                    some false
                else
                  some false
              else
                ((F_plaitref04_Items r1)).bind fun r11 =>
                bif (r5.2 != (0 : Int)) then
                  some false
                else
                  ((F_plaitref01_Rows (r5.1, r11))).bind fun r12 =>
                  bif (Bool.not r12) then
                    some false
                  else
                    bif ((((List.length r11) : Nat) : Int) == r1.1) then
                      bif (r3.2 != (5 : Int)) then
                        some false
                      else
                        ((F_plaitlaw04_empty r3.1)).bind fun r13 =>
                        bif (Bool.not r13) then
                          some false
                        else
                          bif ((((List.length r11) : Nat) : Int) == (0 : Int)) then
                            bif (r4.2.2 != (4 : Int)) then
                              some false
                            else
                              bif (r4.2.1 != (0 : Int)) then
                                some false
                              else
                                ((F_plaitlaw04_empty r4.1)).bind fun r14 =>
                                bif (Bool.not r14) then
                                  some false
                                else
                                  bif (decide (x.2.1 < (((List.length r11) : Nat) : Int))) then
                                    bif (r6.2 == (2 : Int)) then
                                      ((F_plaitlaw04_empty r6.1)).bind fun r15 =>
                                      some r15
                                    else
                                      some false
                                  else
                                    bif (decide (x.2.1 > (8 : Int))) then
                                      bif (r6.2 == (2 : Int)) then
                                        ((F_plaitlaw04_empty r6.1)).bind fun r15 =>
                                        some r15
                                      else
                                        some false
                                    else
                                      bif (r6.2 == (0 : Int)) then
                                        ((F_plaitref04_Is (r6.1, (x.2.1, r11)))).bind fun r15 =>
                                        some r15
                                      else
                                        some false
                          else
                            bif (r4.2.2 != (0 : Int)) then
                              some false
                            else
                              bif (Go.Proofs.Ytegbkaaibgdheaa.VX.inb (0 : Int) (List.length r11)) then
                                bif (r4.2.1 != (Go.Proofs.Ytegbkaaibgdheaa.VX.getAt (0 : Int) r11 (Go.Proofs.Ytegbkaaibgdheaa.VX.toN (0 : Int)))) then
                                  some false
                                else
                                  bif (Go.Proofs.Ytegbkaaibgdheaa.VX.sub3 (1 : Int) (((List.length r11) : Nat) : Int) (List.length r11)) then
                                    ((F_plaitref04_Is (r4.1, (r1.1, (Go.Proofs.Ytegbkaaibgdheaa.VX.cut r11 (Go.Proofs.Ytegbkaaibgdheaa.VX.toN (1 : Int)) ((Go.Proofs.Ytegbkaaibgdheaa.VX.toN (((List.length r11) : Nat) : Int)) - (Go.Proofs.Ytegbkaaibgdheaa.VX.toN (1 : Int)))))))).bind fun r14 =>
                                    bif (Bool.not r14) then
                                      some false
                                    else
                                      bif (decide (x.2.1 < (((List.length r11) : Nat) : Int))) then
                                        bif (r6.2 == (2 : Int)) then
                                          ((F_plaitlaw04_empty r6.1)).bind fun r15 =>
                                          some r15
                                        else
                                          some false
                                      else
                                        bif (decide (x.2.1 > (8 : Int))) then
                                          bif (r6.2 == (2 : Int)) then
                                            ((F_plaitlaw04_empty r6.1)).bind fun r15 =>
                                            some r15
                                          else
                                            some false
                                        else
                                          bif (r6.2 == (0 : Int)) then
                                            ((F_plaitref04_Is (r6.1, (x.2.1, r11)))).bind fun r15 =>
                                            some r15
                                          else
                                            some false
                                  else
                                    none
                              else
                                none
                    else
                      bif (r3.2 != (0 : Int)) then
                        some false
                      else
                        bif (Go.Proofs.Ytegbkaaibgdheaa.VX.fits ((List.length ([] : List Int)) + (List.length r11))) then
                          bif (Go.Proofs.Ytegbkaaibgdheaa.VX.fits ((List.length (([] : List Int) ++ r11)) + (List.length (x.2.2 :: ([] : List Int))))) then
                            ((F_plaitref04_Is (r3.1, (r1.1, ((([] : List Int) ++ r11) ++ (x.2.2 :: ([] : List Int))))))).bind fun r13 =>
                            bif (Bool.not r13) then
                              some false
                            else
                              bif ((((List.length r11) : Nat) : Int) == (0 : Int)) then
                                bif (r4.2.2 != (4 : Int)) then
                                  some false
                                else
                                  bif (r4.2.1 != (0 : Int)) then
                                    some false
                                  else
                                    ((F_plaitlaw04_empty r4.1)).bind fun r14 =>
                                    bif (Bool.not r14) then
                                      some false
                                    else
                                      bif (decide (x.2.1 < (((List.length r11) : Nat) : Int))) then
                                        bif (r6.2 == (2 : Int)) then
                                          ((F_plaitlaw04_empty r6.1)).bind fun r15 =>
                                          some r15
                                        else
                                          some false
                                      else
                                        bif (decide (x.2.1 > (8 : Int))) then
                                          bif (r6.2 == (2 : Int)) then
                                            ((F_plaitlaw04_empty r6.1)).bind fun r15 =>
                                            some r15
                                          else
                                            some false
                                        else
                                          bif (r6.2 == (0 : Int)) then
                                            ((F_plaitref04_Is (r6.1, (x.2.1, r11)))).bind fun r15 =>
                                            some r15
                                          else
                                            some false
                              else
                                bif (r4.2.2 != (0 : Int)) then
                                  some false
                                else
                                  bif (Go.Proofs.Ytegbkaaibgdheaa.VX.inb (0 : Int) (List.length r11)) then
                                    bif (r4.2.1 != (Go.Proofs.Ytegbkaaibgdheaa.VX.getAt (0 : Int) r11 (Go.Proofs.Ytegbkaaibgdheaa.VX.toN (0 : Int)))) then
                                      some false
                                    else
                                      bif (Go.Proofs.Ytegbkaaibgdheaa.VX.sub3 (1 : Int) (((List.length r11) : Nat) : Int) (List.length r11)) then
                                        ((F_plaitref04_Is (r4.1, (r1.1, (Go.Proofs.Ytegbkaaibgdheaa.VX.cut r11 (Go.Proofs.Ytegbkaaibgdheaa.VX.toN (1 : Int)) ((Go.Proofs.Ytegbkaaibgdheaa.VX.toN (((List.length r11) : Nat) : Int)) - (Go.Proofs.Ytegbkaaibgdheaa.VX.toN (1 : Int)))))))).bind fun r14 =>
                                        bif (Bool.not r14) then
                                          some false
                                        else
                                          bif (decide (x.2.1 < (((List.length r11) : Nat) : Int))) then
                                            bif (r6.2 == (2 : Int)) then
                                              ((F_plaitlaw04_empty r6.1)).bind fun r15 =>
                                              some r15
                                            else
                                              some false
                                          else
                                            bif (decide (x.2.1 > (8 : Int))) then
                                              bif (r6.2 == (2 : Int)) then
                                                ((F_plaitlaw04_empty r6.1)).bind fun r15 =>
                                                some r15
                                              else
                                                some false
                                            else
                                              bif (r6.2 == (0 : Int)) then
                                                ((F_plaitref04_Is (r6.1, (x.2.1, r11)))).bind fun r15 =>
                                                some r15
                                              else
                                                some false
                                      else
                                        none
                                  else
                                    none
                          else
                            none
                        else
                          none
noncomputable def cx_plaitlaw04_RingTells : Ctx := { tb := mkTb T2.tbl, fx := [(20, [], Spec.shp si_plaitlaw04_few so_plaitlaw04_few F_plaitlaw04_few), (13, [], Spec.shp si_ring_New so_ring_New F_ring_New), (14, [], Spec.shp si_ring_Push so_ring_Push F_ring_Push), (15, [], Spec.shp si_ring_Pop so_ring_Pop F_ring_Pop), (16, [], Spec.shp si_ring_Items so_ring_Items F_ring_Items), (21, [], Spec.shp si_ring_Grow so_ring_Grow F_ring_Grow), (30, [], Spec.shp si_plaitref04_Right so_plaitref04_Right F_plaitref04_Right), (18, [], Spec.shp si_ring_Right so_ring_Right F_ring_Right), (19, [], Spec.shp si_plaitlaw04_alive so_plaitlaw04_alive F_plaitlaw04_alive), (22, [], Spec.shp si_plaitlaw04_empty so_plaitlaw04_empty F_plaitlaw04_empty), (32, [], Spec.shp si_plaitref04_Items so_plaitref04_Items F_plaitref04_Items), (17, [], Spec.shp si_plaitref01_Rows so_plaitref01_Rows F_plaitref01_Rows), (31, [], Spec.shp si_plaitref04_Is so_plaitref04_Is F_plaitref04_Is), (31, [2000000], Spec.shp si_plaitref04_Is so_plaitref04_Is F_plaitref04_Is)], sum := [], nt := 209, pin := 0, nr := true, ys := [] }
theorem F_plaitlaw04_RingTells_ok : Sound Try.prog 6 (Spec.pure [(.pair (.int .i64) (.pair (.int .i64) (.pair (.slice (.int .i64)) (.int .i64)))), (.int .i64), (.int .i64)] [.bool] F_plaitlaw04_RingTells) :=
  Sound.pure (C := cx_plaitlaw04_RingTells) (fn := Try.f6) (by kernel_rfl) (c := bodyOf Try.f6) (by kernel_rfl) (by decide) (ctxOK mixed tbl_ok rfl ⟨F_plaitlaw04_few_ok, F_ring_New_ok, F_ring_Push_ok, F_ring_Pop_ok, F_ring_Items_ok, F_ring_Grow_ok, F_plaitref04_Right_ok, F_ring_Right_ok, F_plaitlaw04_alive_ok, F_plaitlaw04_empty_ok, F_plaitref04_Items_ok, F_plaitref01_Rows_ok, F_plaitref04_Is_ok, F_plaitref04_Is_ok, trivial⟩) (SumOK.of trivial) (by kernel_rfl) rfl _ _ (by decide) _ (fun x => by kernel_rfl)
abbrev sh_plaitlaw04_RingOrder_8 : Shape := { sl := [(0, (.hole (.int .i64))), (5, (.ptr 0 [])), (7, (.hole (.slice (.int .i64)))), (32, (.hole (.slice (.int .i64)))), (33, (.hole (.int .i64))), (34, (.hole (.int .i64)))], bl := [.var (.hole (.pair (.int .i64) (.pair (.int .i64) (.pair (.slice (.int .i64)) (.int .i64)))))], ts := [(.int .i64), (.slice (.int .i64)), (.slice (.int .i64)), (.int .i64), (.int .i64), (.pair (.int .i64) (.pair (.int .i64) (.pair (.slice (.int .i64)) (.int .i64))))], pin := 0 }
abbrev es_plaitlaw04_RingOrder_8 : List (ETag × Shape) := [(.ret, { sl := [(4, (.hole .bool))], bl := [], ts := [.bool], pin := 0 }), (.exit 0, { sl := [], bl := [], ts := [], pin := 0 })]
noncomputable def L_plaitlaw04_RingOrder_8 (x : (Int × List (Int) × List (Int) × Int × Int × (Int × (Int × (List (Int) × Int))))) : Option ((Int × List (Int) × List (Int) × Int × Int × (Int × (Int × (List (Int) × Int)))) ⊕ ((Bool) ⊕ Unit)) :=
  bif (decide (x.2.2.2.2.1 < x.2.2.2.1)) then
    bif (Go.Proofs.Ytegbkaaibgdheaa.VX.inb x.2.2.2.2.1 (List.length x.2.2.1)) then
      bif ((Int.tmod (Go.Proofs.Ytegbkaaibgdheaa.VX.getAt (0 : Int) x.2.2.1 (Go.Proofs.Ytegbkaaibgdheaa.VX.toN x.2.2.2.2.1)) (2 : Int)) == (0 : Int)) then
        ((F_ring_Push (x.2.2.2.2.2, (Go.Proofs.Ytegbkaaibgdheaa.VX.getAt (0 : Int) x.2.2.1 (Go.Proofs.Ytegbkaaibgdheaa.VX.toN x.2.2.2.2.1))))).bind fun r3 =>
        bif (Bool.not (Go.Proofs.Ytegbkaaibgdheaa.VX.Ty.beq Go.Proofs.Ytegbkaaibgdheaa.VX.Ty.bool (r3.2 == (5 : Int)) ((((List.length x.2.1) : Nat) : Int) == x.1))) then
          some (.inr (.inl false))
        else
          bif (r3.2 != (0 : Int)) then
            bif (r3.2 != (5 : Int)) then
              some (.inr (.inl false))
            else
              bif (r3.2 == (0 : Int)) then
                none
              else
                ((F_ring_Items x.2.2.2.2.2)).bind fun r4 =>
                bif (r4.2 != (0 : Int)) then
                  some (.inr (.inl false))
                else
                  ((F_plaitref01_Rows (r4.1, x.2.1))).bind fun r5 =>
                  bif (Bool.not r5) then
                    some (.inr (.inl false))
                  else
                    ((F_ring_Right x.2.2.2.2.2)).bind fun r6 =>
                    bif (Bool.not r6) then
                      some (.inr (.inl false))
                    else
                      some (.inl (x.1, (x.2.1, (x.2.2.1, (x.2.2.2.1, ((Go.IntKind.wrap Go.IntKind.i64 (x.2.2.2.2.1 + (1 : Int))), x.2.2.2.2.2))))))
          else
            bif (r3.2 == (0 : Int)) then
              none
            else
              ((F_ring_Items x.2.2.2.2.2)).bind fun r4 =>
              bif (r4.2 != (0 : Int)) then
                some (.inr (.inl false))
              else
                ((F_plaitref01_Rows (r4.1, x.2.1))).bind fun r5 =>
                bif (Bool.not r5) then
                  some (.inr (.inl false))
                else
                  ((F_ring_Right x.2.2.2.2.2)).bind fun r6 =>
                  bif (Bool.not r6) then
                    some (.inr (.inl false))
                  else
                    some (.inl (x.1, (x.2.1, (x.2.2.1, (x.2.2.2.1, ((Go.IntKind.wrap Go.IntKind.i64 (x.2.2.2.2.1 + (1 : Int))), x.2.2.2.2.2))))))
      else
        ((F_ring_Pop x.2.2.2.2.2)).bind fun r3 =>
        bif (Bool.not (Go.Proofs.Ytegbkaaibgdheaa.VX.Ty.beq Go.Proofs.Ytegbkaaibgdheaa.VX.Ty.bool (r3.2.2 == (4 : Int)) ((((List.length x.2.1) : Nat) : Int) == (0 : Int)))) then
          some (.inr (.inl false))
        else
          bif (r3.2.2 != (0 : Int)) then
            bif (r3.2.2 != (4 : Int)) then
              some (.inr (.inl false))
            else
              bif (r3.2.2 == (0 : Int)) then
                bif (Go.Proofs.Ytegbkaaibgdheaa.VX.inb (0 : Int) (List.length x.2.1)) then
                  bif (r3.2.1 != (Go.Proofs.Ytegbkaaibgdheaa.VX.getAt (0 : Int) x.2.1 (Go.Proofs.Ytegbkaaibgdheaa.VX.toN (0 : Int)))) then
                    some (.inr (.inl false))
                  else
                    bif (Go.Proofs.Ytegbkaaibgdheaa.VX.sub3 (1 : Int) (((List.length x.2.1) : Nat) : Int) (List.length x.2.1)) then
                      ((F_ring_Items r3.1)).bind fun r4 =>
                      bif (r4.2 != (0 : Int)) then
                        some (.inr (.inl false))
                      else
                        ((F_plaitref01_Rows (r4.1, (Go.Proofs.Ytegbkaaibgdheaa.VX.cut x.2.1 (Go.Proofs.Ytegbkaaibgdheaa.VX.toN (1 : Int)) ((Go.Proofs.Ytegbkaaibgdheaa.VX.toN (((List.length x.2.1) : Nat) : Int)) - (Go.Proofs.Ytegbkaaibgdheaa.VX.toN (1 : Int))))))).bind fun r5 =>
                        bif (Bool.not r5) then
                          some (.inr (.inl false))
                        else
                          ((F_ring_Right r3.1)).bind fun r6 =>
                          bif (Bool.not r6) then
                            some (.inr (.inl false))
                          else
                            some (.inl (x.1, ((Go.Proofs.Ytegbkaaibgdheaa.VX.cut x.2.1 (Go.Proofs.Ytegbkaaibgdheaa.VX.toN (1 : Int)) ((Go.Proofs.Ytegbkaaibgdheaa.VX.toN (((List.length x.2.1) : Nat) : Int)) - (Go.Proofs.Ytegbkaaibgdheaa.VX.toN (1 : Int)))), (x.2.2.1, (x.2.2.2.1, ((Go.IntKind.wrap Go.IntKind.i64 (x.2.2.2.2.1 + (1 : Int))), r3.1))))))
                    else
                      none
                else
                  none
              else
                ((F_ring_Items x.2.2.2.2.2)).bind fun r4 =>
                bif (r4.2 != (0 : Int)) then
                  some (.inr (.inl false))
                else
                  ((F_plaitref01_Rows (r4.1, x.2.1))).bind fun r5 =>
                  bif (Bool.not r5) then
                    some (.inr (.inl false))
                  else
                    ((F_ring_Right x.2.2.2.2.2)).bind fun r6 =>
                    bif (Bool.not r6) then
                      some (.inr (.inl false))
                    else
                      some (.inl (x.1, (x.2.1, (x.2.2.1, (x.2.2.2.1, ((Go.IntKind.wrap Go.IntKind.i64 (x.2.2.2.2.1 + (1 : Int))), x.2.2.2.2.2))))))
          else
            bif (r3.2.2 == (0 : Int)) then
              bif (Go.Proofs.Ytegbkaaibgdheaa.VX.inb (0 : Int) (List.length x.2.1)) then
                bif (r3.2.1 != (Go.Proofs.Ytegbkaaibgdheaa.VX.getAt (0 : Int) x.2.1 (Go.Proofs.Ytegbkaaibgdheaa.VX.toN (0 : Int)))) then
                  some (.inr (.inl false))
                else
                  bif (Go.Proofs.Ytegbkaaibgdheaa.VX.sub3 (1 : Int) (((List.length x.2.1) : Nat) : Int) (List.length x.2.1)) then
                    ((F_ring_Items r3.1)).bind fun r4 =>
                    bif (r4.2 != (0 : Int)) then
                      some (.inr (.inl false))
                    else
                      ((F_plaitref01_Rows (r4.1, (Go.Proofs.Ytegbkaaibgdheaa.VX.cut x.2.1 (Go.Proofs.Ytegbkaaibgdheaa.VX.toN (1 : Int)) ((Go.Proofs.Ytegbkaaibgdheaa.VX.toN (((List.length x.2.1) : Nat) : Int)) - (Go.Proofs.Ytegbkaaibgdheaa.VX.toN (1 : Int))))))).bind fun r5 =>
                      bif (Bool.not r5) then
                        some (.inr (.inl false))
                      else
                        ((F_ring_Right r3.1)).bind fun r6 =>
                        bif (Bool.not r6) then
                          some (.inr (.inl false))
                        else
                          some (.inl (x.1, ((Go.Proofs.Ytegbkaaibgdheaa.VX.cut x.2.1 (Go.Proofs.Ytegbkaaibgdheaa.VX.toN (1 : Int)) ((Go.Proofs.Ytegbkaaibgdheaa.VX.toN (((List.length x.2.1) : Nat) : Int)) - (Go.Proofs.Ytegbkaaibgdheaa.VX.toN (1 : Int)))), (x.2.2.1, (x.2.2.2.1, ((Go.IntKind.wrap Go.IntKind.i64 (x.2.2.2.2.1 + (1 : Int))), r3.1))))))
                  else
                    none
              else
                none
            else
              ((F_ring_Items x.2.2.2.2.2)).bind fun r4 =>
              bif (r4.2 != (0 : Int)) then
                some (.inr (.inl false))
              else
                ((F_plaitref01_Rows (r4.1, x.2.1))).bind fun r5 =>
                bif (Bool.not r5) then
                  some (.inr (.inl false))
                else
                  ((F_ring_Right x.2.2.2.2.2)).bind fun r6 =>
                  bif (Bool.not r6) then
                    some (.inr (.inl false))
                  else
                    some (.inl (x.1, (x.2.1, (x.2.2.1, (x.2.2.2.1, ((Go.IntKind.wrap Go.IntKind.i64 (x.2.2.2.2.1 + (1 : Int))), x.2.2.2.2.2))))))
    else
      none
  else
    some (.inr (.inr ()))
noncomputable def cx_plaitlaw04_RingOrder_8 : Ctx := { tb := mkTb T2.tbl, fx := [(13, [], Spec.shp si_ring_New so_ring_New F_ring_New), (14, [], Spec.shp si_ring_Push so_ring_Push F_ring_Push), (16, [], Spec.shp si_ring_Items so_ring_Items F_ring_Items), (17, [2000000], Spec.shp si_plaitref01_Rows so_plaitref01_Rows F_plaitref01_Rows), (18, [], Spec.shp si_ring_Right so_ring_Right F_ring_Right), (17, [], Spec.shp si_plaitref01_Rows so_plaitref01_Rows F_plaitref01_Rows), (15, [], Spec.shp si_ring_Pop so_ring_Pop F_ring_Pop)], sum := [], nt := 119, pin := 0, nr := true, ys := [] }
theorem L_plaitlaw04_RingOrder_8_ok : CSound Try.prog ⟨119, 0, true⟩ (.loop (loopOf 8 Try.f3)) (pieceSpec sh_plaitlaw04_RingOrder_8 es_plaitlaw04_RingOrder_8 (loop L_plaitlaw04_RingOrder_8)) :=
  loop_sound (C := cx_plaitlaw04_RingOrder_8) (ctxOK mixed tbl_ok rfl ⟨F_ring_New_ok, F_ring_Push_ok, F_ring_Items_ok, F_plaitref01_Rows_ok, F_ring_Right_ok, F_plaitref01_Rows_ok, F_ring_Pop_ok, trivial⟩ trivial) (SumOK.of trivial) sh_plaitlaw04_RingOrder_8 es_plaitlaw04_RingOrder_8 rfl rfl L_plaitlaw04_RingOrder_8 (fun x => by kernel_rfl)
noncomputable def F_plaitlaw04_RingOrder (x : (Int × List (Int))) : Option (Bool) :=
  ((F_ring_New (Int.tmod (Go.IntKind.wrap Go.IntKind.i64 ((Int.tmod x.1 (9 : Int)) + (9 : Int))) (9 : Int)))).bind fun r1 =>
  bif (r1.2 != (0 : Int)) then
    some false
  else
    bif (Go.Proofs.Ytegbkaaibgdheaa.VX.sub3 (0 : Int) (Min.min (((List.length x.2) : Nat) : Int) (200 : Int)) (List.length x.2)) then
      ((loop L_plaitlaw04_RingOrder_8 ((Int.tmod (Go.IntKind.wrap Go.IntKind.i64 ((Int.tmod x.1 (9 : Int)) + (9 : Int))) (9 : Int)), (([] : List Int), ((Go.Proofs.Ytegbkaaibgdheaa.VX.cut x.2 (Go.Proofs.Ytegbkaaibgdheaa.VX.toN (0 : Int)) ((Go.Proofs.Ytegbkaaibgdheaa.VX.toN (Min.min (((List.length x.2) : Nat) : Int) (200 : Int))) - (Go.Proofs.Ytegbkaaibgdheaa.VX.toN (0 : Int)))), ((((List.length (Go.Proofs.Ytegbkaaibgdheaa.VX.cut x.2 (Go.Proofs.Ytegbkaaibgdheaa.VX.toN (0 : Int)) ((Go.Proofs.Ytegbkaaibgdheaa.VX.toN (Min.min (((List.length x.2) : Nat) : Int) (200 : Int))) - (Go.Proofs.Ytegbkaaibgdheaa.VX.toN (0 : Int))))) : Nat) : Int), ((0 : Int), r1.1))))))).bind fun r2 =>
      match r2 with
      | .inl y3 =>
        some y3
      | .inr y3 =>
        ((F_plaitlaw04_alive ())).bind fun r4 =>
        some r4
    else
      none
noncomputable def cx_plaitlaw04_RingOrder : Ctx := { tb := mkTb T2.tbl, fx := [(13, [], Spec.shp si_ring_New so_ring_New F_ring_New), (14, [], Spec.shp si_ring_Push so_ring_Push F_ring_Push), (16, [], Spec.shp si_ring_Items so_ring_Items F_ring_Items), (17, [2000000], Spec.shp si_plaitref01_Rows so_plaitref01_Rows F_plaitref01_Rows), (18, [], Spec.shp si_ring_Right so_ring_Right F_ring_Right), (17, [], Spec.shp si_plaitref01_Rows so_plaitref01_Rows F_plaitref01_Rows), (15, [], Spec.shp si_ring_Pop so_ring_Pop F_ring_Pop), (19, [], Spec.shp si_plaitlaw04_alive so_plaitlaw04_alive F_plaitlaw04_alive)], sum := [(0, 8, pieceSpec sh_plaitlaw04_RingOrder_8 es_plaitlaw04_RingOrder_8 (loop L_plaitlaw04_RingOrder_8))], nt := 119, pin := 0, nr := true, ys := [] }
theorem F_plaitlaw04_RingOrder_ok : Sound Try.prog 3 (Spec.pure [(.int .i64), (.slice (.int .i64))] [.bool] F_plaitlaw04_RingOrder) :=
  Sound.pure (C := cx_plaitlaw04_RingOrder) (fn := Try.f3) (by kernel_rfl) (c := bodyOf Try.f3) (by kernel_rfl) (by decide) (ctxOK mixed tbl_ok rfl ⟨F_ring_New_ok, F_ring_Push_ok, F_ring_Items_ok, F_plaitref01_Rows_ok, F_ring_Right_ok, F_plaitref01_Rows_ok, F_ring_Pop_ok, F_plaitlaw04_alive_ok, trivial⟩) (SumOK.of ⟨(by first | exact pieces_one (d := .loop (loopOf 8 Try.f3)) (by kernel_rfl) L_plaitlaw04_RingOrder_8_ok | exact pieces_none (by kernel_rfl)), trivial⟩) (by kernel_rfl) rfl _ _ (by decide) _ (fun x => by kernel_rfl)

end Go.Proofs.Ytegbkaaibgdheaa.VX.VxB_Ring
