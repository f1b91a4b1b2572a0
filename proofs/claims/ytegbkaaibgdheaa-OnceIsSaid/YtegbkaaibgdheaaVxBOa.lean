import Derived.Test.YtegbkaaibgdheaaVxR
import Derived.Test.YtegbkaaibgdheaaVxT2
set_option linter.unusedVariables false
set_option maxRecDepth 100000
namespace Go.Proofs.Ytegbkaaibgdheaa.VX.VxB_O
open Go.Proofs Go.Proofs.Ytegbkaaibgdheaa.VX.T2
theorem mixed : Try.prog.follows .mixedOrders = true := by kernel_rfl
abbrev si_plaitlaw04_few : Shape := { sl := [(0, (.hole (.pair (.int .i64) (.pair (.int .i64) (.pair (.slice (.int .i64)) (.int .i64))))))], bl := [], ts := [(.pair (.int .i64) (.pair (.int .i64) (.pair (.slice (.int .i64)) (.int .i64))))], pin := 0 }
abbrev so_plaitlaw04_few : Shape := { sl := [(0, (.hole (.pair (.int .i64) (.pair (.int .i64) (.pair (.slice (.int .i64)) (.int .i64))))))], bl := [], ts := [(.pair (.int .i64) (.pair (.int .i64) (.pair (.slice (.int .i64)) (.int .i64))))], pin := 0 }
noncomputable def F_plaitlaw04_few (x : ((Int × (Int × (List (Int) × Int))))) : Option ((Int × (Int × (List (Int) × Int)))) :=
  bif (Go.Proofs.Ytegbkaaibgdheaa.VX.sub3 (0 : Int) (Min.min (((List.length x.2.2.1) : Nat) : Int) (12 : Int)) (List.length x.2.2.1)) then
    some (x.1, (x.2.1, ((Go.Proofs.Ytegbkaaibgdheaa.VX.cut x.2.2.1 (Go.Proofs.Ytegbkaaibgdheaa.VX.toN (0 : Int)) ((Go.Proofs.Ytegbkaaibgdheaa.VX.toN (Min.min (((List.length x.2.2.1) : Nat) : Int) (12 : Int))) - (Go.Proofs.Ytegbkaaibgdheaa.VX.toN (0 : Int)))), x.2.2.2)))
  else
    none
noncomputable def cx_plaitlaw04_few : Ctx := { tb := mkTb T2.tbl, fx := [], sum := [], nt := 12, pin := 0, nr := true, ys := [] }
theorem F_plaitlaw04_few_ok : Sound Try.prog 20 (Spec.shp si_plaitlaw04_few so_plaitlaw04_few F_plaitlaw04_few) :=
  Sound.shp (C := cx_plaitlaw04_few) (fn := Try.f20) (by kernel_rfl) (c := bodyOf Try.f20) (by kernel_rfl) (by decide) (ctxOK mixed tbl_ok rfl trivial trivial) (SumOK.of trivial) (by kernel_rfl) si_plaitlaw04_few so_plaitlaw04_few rfl (by decide) (by decide) rfl (by decide) rfl F_plaitlaw04_few (fun x => by kernel_rfl)
abbrev si_ring_Right : Shape := { sl := [(0, (.hole (.pair (.int .i64) (.pair (.int .i64) (.pair (.slice (.int .i64)) (.int .i64))))))], bl := [], ts := [(.pair (.int .i64) (.pair (.int .i64) (.pair (.slice (.int .i64)) (.int .i64))))], pin := 0 }
abbrev so_ring_Right : Shape := { sl := [(0, (.hole .bool))], bl := [], ts := [.bool], pin := 0 }
noncomputable def F_ring_Right (x : ((Int × (Int × (List (Int) × Int))))) : Option (Bool) :=
  bif (decide (x.1 ≥ (0 : Int))) then
    bif (decide (x.1 ≤ (8 : Int))) then
      bif ((((List.length x.2.2.1) : Nat) : Int) == x.1) then
        bif (decide (x.2.2.2 ≥ (0 : Int))) then
          bif (decide (x.2.2.2 ≤ x.1)) then
            bif (decide (x.2.1 ≥ (0 : Int))) then
              some (decide (x.2.1 < (Max.max (1 : Int) x.1)))
            else
              some false
          else
            some false
        else
          some false
      else
        some false
    else
      some false
  else
    some false
noncomputable def cx_ring_Right : Ctx := { tb := mkTb T2.tbl, fx := [], sum := [], nt := 46, pin := 0, nr := true, ys := [] }
theorem F_ring_Right_ok : Sound Try.prog 18 (Spec.shp si_ring_Right so_ring_Right F_ring_Right) :=
  Sound.shp (C := cx_ring_Right) (fn := Try.f18) (by kernel_rfl) (c := bodyOf Try.f18) (by kernel_rfl) (by decide) (ctxOK mixed tbl_ok rfl trivial trivial) (SumOK.of trivial) (by kernel_rfl) si_ring_Right so_ring_Right rfl (by decide) (by decide) rfl (by decide) rfl F_ring_Right (fun x => by kernel_rfl)
abbrev si_ring_places_all : Shape := { sl := [(0, (.hole (.one (.pair (.int .i64) (.pair (.int .i64) (.pair (.slice (.int .i64)) (.int .i64)))))))], bl := [], ts := [(.one (.pair (.int .i64) (.pair (.int .i64) (.pair (.slice (.int .i64)) (.int .i64)))))], pin := 0 }
abbrev so_ring_places_all : Shape := { sl := [(0, (.fn 75 .nil (.cons (.ptr 0 []) .nil)))], bl := [.var (.hole (.one (.pair (.int .i64) (.pair (.int .i64) (.pair (.slice (.int .i64)) (.int .i64))))))], ts := [(.one (.pair (.int .i64) (.pair (.int .i64) (.pair (.slice (.int .i64)) (.int .i64)))))], pin := 0 }
noncomputable def F_ring_places_all (x : ((Int × (Int × (List (Int) × Int))))) : Option ((Int × (Int × (List (Int) × Int)))) :=
  some x
noncomputable def cx_ring_places_all : Ctx := { tb := mkTb T2.tbl, fx := [], sum := [], nt := 4, pin := 0, nr := true, ys := [] }
theorem F_ring_places_all_ok : Sound Try.prog 61 (Spec.shp si_ring_places_all so_ring_places_all F_ring_places_all) :=
  Sound.shp (C := cx_ring_places_all) (fn := Try.f61) (by kernel_rfl) (c := bodyOf Try.f61) (by kernel_rfl) (by decide) (ctxOK mixed tbl_ok rfl trivial trivial) (SumOK.of trivial) (by kernel_rfl) si_ring_places_all so_ring_places_all rfl (by decide) (by decide) rfl (by decide) rfl F_ring_places_all (fun x => by kernel_rfl)
abbrev si_ring_Items_r6 : Shape := { sl := [(4, (.ptr 0 [])), (12, (.hole (.int .i64)))], bl := [.var (.sl 1), .row (.int .i64)], ts := [(.int .i64), (.slice (.int .i64))], pin := 0 }
abbrev so_ring_Items_r6 : Shape := { sl := [(0, (.hole (.int .i64)))], bl := [.var (.sl 1), .row (.int .i64)], ts := [(.int .i64), (.slice (.int .i64))], pin := 1 }
noncomputable def F_ring_Items_r6 (x : (Int × List (Int))) : Option (Int × List (Int)) :=
  bif (Go.Proofs.Ytegbkaaibgdheaa.VX.fits ((List.length x.2) + (List.length (x.1 :: ([] : List Int))))) then
    some ((0 : Int), (x.2 ++ (x.1 :: ([] : List Int))))
  else
    none
noncomputable def cx_ring_Items_r6 : Ctx := { tb := mkTb T2.tbl, fx := [], sum := [], nt := 18, pin := 1, nr := false, ys := [] }
theorem F_ring_Items_r6_ok : YSound Try.prog 1048582 [4] (Spec.rnd [4, 12] si_ring_Items_r6 so_ring_Items_r6 F_ring_Items_r6) :=
  YSound.rnd (C := cx_ring_Items_r6) (rt := ⟨rfPs (rfOf 6 Try.f16), rfAs (rfOf 6 Try.f16), rfBody (rfOf 6 Try.f16), 18⟩) (by kernel_rfl) (ctxOK mixed tbl_ok rfl trivial) (SumOK.of trivial) (SumOK.of trivial) rfl rfl [4] si_ring_Items_r6 so_ring_Items_r6 rfl (by decide) (by decide) rfl (fun y => ⟨_, rfl⟩) (of_decide_eq_true (by kernel_rfl)) (of_decide_eq_true (by kernel_rfl)) F_ring_Items_r6 (fun x => by kernel_rfl)
abbrev si_ring_places_at : Shape := { sl := [(0, (.hole (.one (.pair (.int .i64) (.pair (.int .i64) (.pair (.slice (.int .i64)) (.int .i64))))))), (1, (.hole (.int .i64)))], bl := [], ts := [(.one (.pair (.int .i64) (.pair (.int .i64) (.pair (.slice (.int .i64)) (.int .i64))))), (.int .i64)], pin := 0 }
abbrev so_ring_places_at : Shape := { sl := [(0, (.hole (.int .i64)))], bl := [], ts := [(.int .i64)], pin := 0 }
noncomputable def F_ring_places_at (x : ((Int × (Int × (List (Int) × Int))) × Int)) : Option (Int) :=
  bif (x.1.1 != (0 : Int)) then
    some (Int.tmod (Go.IntKind.wrap Go.IntKind.i64 (x.1.2.1 + x.2)) x.1.1)
  else
    none
noncomputable def cx_ring_places_at : Ctx := { tb := mkTb T2.tbl, fx := [], sum := [], nt := 14, pin := 0, nr := true, ys := [] }
theorem F_ring_places_at_ok : Sound Try.prog 59 (Spec.shp si_ring_places_at so_ring_places_at F_ring_places_at) :=
  Sound.shp (C := cx_ring_places_at) (fn := Try.f59) (by kernel_rfl) (c := bodyOf Try.f59) (by kernel_rfl) (by decide) (ctxOK mixed tbl_ok rfl trivial trivial) (SumOK.of trivial) (by kernel_rfl) si_ring_places_at so_ring_places_at rfl (by decide) (by decide) rfl (by decide) rfl F_ring_places_at (fun x => by kernel_rfl)
abbrev sh_ring_places_all_1_ring_Items_r6_2 : Shape := { sl := [(0, (.yl 0)), (1, (.ptr 1 [])), (6, (.hole (.int .i64))), (7, (.hole (.int .i64)))], bl := [.lp 1048582 [4] (.cons (.ptr 2 []) .nil), .var (.hole (.one (.pair (.int .i64) (.pair (.int .i64) (.pair (.slice (.int .i64)) (.int .i64)))))), .var (.sl 3), .row (.int .i64)], ts := [(.int .i64), (.int .i64), (.one (.pair (.int .i64) (.pair (.int .i64) (.pair (.slice (.int .i64)) (.int .i64))))), (.slice (.int .i64))], pin := 3 }
abbrev es_ring_places_all_1_ring_Items_r6_2 : List (ETag × Shape) := [(.ret, { sl := [], bl := [.lpt 1048582 [4] (.cons (.ptr 2 []) .nil), .var (.hole (.one (.pair (.int .i64) (.pair (.int .i64) (.pair (.slice (.int .i64)) (.int .i64)))))), .var (.sl 3), .row (.int .i64)], ts := [(.int .i64), (.one (.pair (.int .i64) (.pair (.int .i64) (.pair (.slice (.int .i64)) (.int .i64))))), (.slice (.int .i64))], pin := 3 }), (.exit 0, { sl := [], bl := [.lp 1048582 [4] (.cons (.ptr 2 []) .nil), .var (.hole (.one (.pair (.int .i64) (.pair (.int .i64) (.pair (.slice (.int .i64)) (.int .i64)))))), .var (.sl 3), .row (.int .i64)], ts := [(.one (.pair (.int .i64) (.pair (.int .i64) (.pair (.slice (.int .i64)) (.int .i64))))), (.slice (.int .i64))], pin := 3 })]
noncomputable def L_ring_places_all_1_ring_Items_r6_2 (x : (Int × Int × (Int × (Int × (List (Int) × Int))) × List (Int))) : Option ((Int × Int × (Int × (Int × (List (Int) × Int))) × List (Int)) ⊕ ((Int × (Int × (Int × (List (Int) × Int))) × List (Int)) ⊕ ((Int × (Int × (List (Int) × Int))) × List (Int)))) :=
  bif (decide (x.2.1 < x.1)) then
    ((F_ring_places_at (x.2.2.1, x.2.1))).bind fun r7 =>
    bif (Go.Proofs.Ytegbkaaibgdheaa.VX.inb r7 (List.length x.2.2.1.2.2.1)) then
      ((F_ring_Items_r6 ((Go.Proofs.Ytegbkaaibgdheaa.VX.getAt (0 : Int) x.2.2.1.2.2.1 (Go.Proofs.Ytegbkaaibgdheaa.VX.toN r7)), x.2.2.2))).bind fun r8 =>
      bif (Go.Proofs.Ytegbkaaibgdheaa.VX.eqI r8.1 (0 : Int)) then
        some (.inl (x.1, ((Go.IntKind.wrap Go.IntKind.i64 (x.2.1 + (1 : Int))), (x.2.2.1, r8.2))))
      else
        some (.inr (.inl (r8.1, (x.2.2.1, r8.2))))
    else
      none
  else
    some (.inr (.inr (x.2.2.1, x.2.2.2)))
noncomputable def cx_ring_places_all_1_ring_Items_r6_2 : Ctx := { tb := mkTb T2.tbl, fx := [(59, [], Spec.shp si_ring_places_at so_ring_places_at F_ring_places_at)], sum := [], nt := 22, pin := 3, nr := true, ys := [(1048582, [4], Spec.rnd [4, 12] { sl := [(4, (.ptr 0 [])), (12, (.hole (.int .i64)))], bl := [.var (.sl 1), .row (.int .i64)], ts := [(.int .i64), (.slice (.int .i64))], pin := 0 } { sl := [(0, (.hole (.int .i64)))], bl := [.var (.sl 1), .row (.int .i64)], ts := [(.int .i64), (.slice (.int .i64))], pin := 1 } F_ring_Items_r6)] }
theorem L_ring_places_all_1_ring_Items_r6_2_ok : CSound Try.prog ⟨22, 3, true⟩ (.loop (loopOf 2 Try.f75)) (pieceSpec sh_ring_places_all_1_ring_Items_r6_2 es_ring_places_all_1_ring_Items_r6_2 (loop L_ring_places_all_1_ring_Items_r6_2)) :=
  loop_sound (C := cx_ring_places_all_1_ring_Items_r6_2) (ctxOK mixed tbl_ok rfl ⟨F_ring_places_at_ok, trivial⟩ ⟨F_ring_Items_r6_ok, trivial⟩) (SumOK.of trivial) sh_ring_places_all_1_ring_Items_r6_2 es_ring_places_all_1_ring_Items_r6_2 rfl rfl L_ring_places_all_1_ring_Items_r6_2 (fun x => by kernel_rfl)
abbrev si_ring_places_all_1_ring_Items_r6 : Shape := { sl := [(0, (.yl 0)), (1, (.ptr 1 []))], bl := [.lp 1048582 [4] (.cons (.ptr 2 []) .nil), .var (.hole (.one (.pair (.int .i64) (.pair (.int .i64) (.pair (.slice (.int .i64)) (.int .i64)))))), .var (.sl 3), .row (.int .i64)], ts := [(.one (.pair (.int .i64) (.pair (.int .i64) (.pair (.slice (.int .i64)) (.int .i64))))), (.slice (.int .i64))], pin := 0 }
abbrev so_ring_places_all_1_ring_Items_r6 : Shape := { sl := [], bl := [.lpt 1048582 [4] (.cons (.ptr 2 []) .nil), .var (.hole (.one (.pair (.int .i64) (.pair (.int .i64) (.pair (.slice (.int .i64)) (.int .i64)))))), .var (.sl 3), .row (.int .i64)], ts := [(.int .i64), (.one (.pair (.int .i64) (.pair (.int .i64) (.pair (.slice (.int .i64)) (.int .i64))))), (.slice (.int .i64))], pin := 3 }
noncomputable def F_ring_places_all_1_ring_Items_r6 (x : ((Int × (Int × (List (Int) × Int))) × List (Int))) : Option (Int × (Int × (Int × (List (Int) × Int))) × List (Int)) :=
  ((loop L_ring_places_all_1_ring_Items_r6_2 (x.1.2.2.2, ((0 : Int), (x.1, x.2))))).bind fun r6 =>
  match r6 with
  | .inl y7 =>
    some (y7.1, (y7.2.1, y7.2.2))
  | .inr y7 =>
    some ((0 : Int), (y7.1, y7.2))
noncomputable def cx_ring_places_all_1_ring_Items_r6 : Ctx := { tb := mkTb T2.tbl, fx := [(59, [], Spec.shp si_ring_places_at so_ring_places_at F_ring_places_at)], sum := [(0, 2, pieceSpec sh_ring_places_all_1_ring_Items_r6_2 es_ring_places_all_1_ring_Items_r6_2 (loop L_ring_places_all_1_ring_Items_r6_2))], nt := 22, pin := 3, nr := true, ys := [(1048582, [4], Spec.rnd [4, 12] si_ring_Items_r6 so_ring_Items_r6 F_ring_Items_r6)] }
theorem F_ring_places_all_1_ring_Items_r6_ok : Sound Try.prog 75 (Spec.shp si_ring_places_all_1_ring_Items_r6 so_ring_places_all_1_ring_Items_r6 F_ring_places_all_1_ring_Items_r6) :=
  Sound.shp (C := cx_ring_places_all_1_ring_Items_r6) (fn := Try.f75) (by kernel_rfl) (c := bodyOf Try.f75) (by kernel_rfl) (by decide) (ctxOK mixed tbl_ok rfl ⟨F_ring_places_at_ok, trivial⟩ ⟨F_ring_Items_r6_ok, trivial⟩) (SumOK.of ⟨(pieces_one (d := .loop (loopOf 2 Try.f75)) (by kernel_rfl) L_ring_places_all_1_ring_Items_r6_2_ok), trivial⟩) (by kernel_rfl) si_ring_places_all_1_ring_Items_r6 so_ring_places_all_1_ring_Items_r6 rfl (by decide) (by decide) rfl (by decide) rfl F_ring_places_all_1_ring_Items_r6 (fun x => by kernel_rfl)
abbrev si_ring_Items : Shape := { sl := [(0, (.hole (.pair (.int .i64) (.pair (.int .i64) (.pair (.slice (.int .i64)) (.int .i64))))))], bl := [], ts := [(.pair (.int .i64) (.pair (.int .i64) (.pair (.slice (.int .i64)) (.int .i64))))], pin := 0 }
abbrev so_ring_Items : Shape := { sl := [(0, (.hole (.slice (.int .i64)))), (1, (.hole (.int .i64)))], bl := [], ts := [(.slice (.int .i64)), (.int .i64)], pin := 0 }
noncomputable def F_ring_Items (x : ((Int × (Int × (List (Int) × Int))))) : Option (List (Int) × Int) :=
  ((F_ring_Right x)).bind fun r3 =>
  bif (Bool.not r3) then
    some (([] : List Int), (1 : Int))
  else
    ((F_ring_places_all x)).bind fun r4 =>
    ((F_ring_places_all_1_ring_Items_r6 (r4, ([] : List Int)))).bind fun r5 =>
    bif (Go.Proofs.Ytegbkaaibgdheaa.VX.eqI r5.1 (0 : Int)) then
      some (r5.2.2, (0 : Int))
    else
      bif (Go.Proofs.Ytegbkaaibgdheaa.VX.eqI r5.1 (1 : Int)) then
        some (([] : List Int), (0 : Int))
      else
        none
noncomputable def cx_ring_Items : Ctx := { tb := mkTb T2.tbl, fx := [(18, [], Spec.shp si_ring_Right so_ring_Right F_ring_Right), (61, [], Spec.shp si_ring_places_all so_ring_places_all F_ring_places_all)], sum := [(3, 6, rangeSpec (rfF (rfOf 6 Try.f16)) 1048582 [4] [] [(75, [2048582], Spec.shp si_ring_places_all_1_ring_Items_r6 so_ring_places_all_1_ring_Items_r6 F_ring_places_all_1_ring_Items_r6)])], nt := 18, pin := 0, nr := true, ys := [] }
theorem F_ring_Items_ok : Sound Try.prog 16 (Spec.shp si_ring_Items so_ring_Items F_ring_Items) :=
  Sound.shp (C := cx_ring_Items) (fn := Try.f16) (by kernel_rfl) (c := bodyOf Try.f16) (by kernel_rfl) (by decide) (ctxOK mixed tbl_ok rfl ⟨F_ring_Right_ok, F_ring_places_all_ok, trivial⟩ trivial) (SumOK.of ⟨(pieces_one (d := rfOf 6 Try.f16) (by kernel_rfl) (range_at1 (c := rfOf 6 Try.f16) rfl (by kernel_rfl) F_ring_places_all_1_ring_Items_r6_ok [4] [])), trivial⟩) (by kernel_rfl) si_ring_Items so_ring_Items rfl (by decide) (by decide) rfl (by decide) rfl F_ring_Items (fun x => by kernel_rfl)
abbrev si_ring_Grow : Shape := { sl := [(0, (.hole (.pair (.int .i64) (.pair (.int .i64) (.pair (.slice (.int .i64)) (.int .i64)))))), (1, (.hole (.int .i64)))], bl := [], ts := [(.pair (.int .i64) (.pair (.int .i64) (.pair (.slice (.int .i64)) (.int .i64)))), (.int .i64)], pin := 0 }
abbrev so_ring_Grow : Shape := { sl := [(0, (.hole (.pair (.int .i64) (.pair (.int .i64) (.pair (.slice (.int .i64)) (.int .i64)))))), (1, (.hole (.int .i64)))], bl := [], ts := [(.pair (.int .i64) (.pair (.int .i64) (.pair (.slice (.int .i64)) (.int .i64)))), (.int .i64)], pin := 0 }
noncomputable def F_ring_Grow (x : ((Int × (Int × (List (Int) × Int))) × Int)) : Option ((Int × (Int × (List (Int) × Int))) × Int) :=
  ((F_ring_Items x.1)).bind fun r4 =>
  bif (r4.2 != (0 : Int)) then
    some (((0 : Int), ((0 : Int), (([] : List Int), (0 : Int)))), r4.2)
  else
    bif (decide (x.2 < (((List.length r4.1) : Nat) : Int))) then
      some (((0 : Int), ((0 : Int), (([] : List Int), (0 : Int)))), (2 : Int))
    else
      bif (decide (x.2 > (8 : Int))) then
        some (((0 : Int), ((0 : Int), (([] : List Int), (0 : Int)))), (2 : Int))
      else
        bif (Go.Proofs.Ytegbkaaibgdheaa.VX.mkOK x.2 x.2) then
          some ((x.2, ((0 : Int), ((Go.Proofs.Ytegbkaaibgdheaa.VX.over (List.replicate (Go.Proofs.Ytegbkaaibgdheaa.VX.toN x.2) (0 : Int)) r4.1 (0 : Nat) (Go.Proofs.Ytegbkaaibgdheaa.VX.lenMin (@Go.Proofs.Ytegbkaaibgdheaa.VX.Ty.int Go.IntKind.i64) r4.1 (List.length (List.replicate (Go.Proofs.Ytegbkaaibgdheaa.VX.toN x.2) (0 : Int))))), (((List.length r4.1) : Nat) : Int)))), (0 : Int))
        else
          none
noncomputable def cx_ring_Grow : Ctx := { tb := mkTb T2.tbl, fx := [(16, [], Spec.shp si_ring_Items so_ring_Items F_ring_Items)], sum := [], nt := 39, pin := 0, nr := true, ys := [] }
theorem F_ring_Grow_ok : Sound Try.prog 21 (Spec.shp si_ring_Grow so_ring_Grow F_ring_Grow) :=
  Sound.shp (C := cx_ring_Grow) (fn := Try.f21) (by kernel_rfl) (c := bodyOf Try.f21) (by kernel_rfl) (by decide) (ctxOK mixed tbl_ok rfl ⟨F_ring_Items_ok, trivial⟩ trivial) (SumOK.of trivial) (by kernel_rfl) si_ring_Grow so_ring_Grow rfl (by decide) (by decide) rfl (by decide) rfl F_ring_Grow (fun x => by kernel_rfl)
abbrev sh_plaitref01_Rows_lent1_5 : Shape := { sl := [(0, (.hole (.slice (.int .i64)))), (1, (.sl 0)), (12, (.hole (.int .i64))), (13, (.hole (.int .i64)))], bl := [.row (.int .i64)], ts := [(.slice (.int .i64)), (.int .i64), (.int .i64), (.slice (.int .i64))], pin := 1 }
abbrev es_plaitref01_Rows_lent1_5 : List (ETag × Shape) := [(.ret, { sl := [(4, (.hole .bool))], bl := [.row (.int .i64)], ts := [.bool, (.slice (.int .i64))], pin := 1 }), (.exit 0, { sl := [], bl := [.row (.int .i64)], ts := [(.slice (.int .i64))], pin := 1 })]
noncomputable def L_plaitref01_Rows_lent1_5 (x : (List (Int) × Int × Int × List (Int))) : Option ((List (Int) × Int × Int × List (Int)) ⊕ ((Bool × List (Int)) ⊕ (List (Int)))) :=
  bif (decide (x.2.2.1 < x.2.1)) then
    bif (Go.Proofs.Ytegbkaaibgdheaa.VX.inb x.2.2.1 (List.length x.1)) then
      bif (Go.Proofs.Ytegbkaaibgdheaa.VX.inb x.2.2.1 (List.length x.2.2.2)) then
        bif ((Go.Proofs.Ytegbkaaibgdheaa.VX.getAt (0 : Int) x.1 (Go.Proofs.Ytegbkaaibgdheaa.VX.toN x.2.2.1)) != (Go.Proofs.Ytegbkaaibgdheaa.VX.getAt (0 : Int) x.2.2.2 (Go.Proofs.Ytegbkaaibgdheaa.VX.toN x.2.2.1))) then
          some (.inr (.inl (false, x.2.2.2)))
        else
          some (.inl (x.1, (x.2.1, ((Go.IntKind.wrap Go.IntKind.i64 (x.2.2.1 + (1 : Int))), x.2.2.2))))
      else
        none
    else
      none
  else
    some (.inr (.inr x.2.2.2))
noncomputable def cx_plaitref01_Rows_lent1_5 : Ctx := { tb := mkTb T2.tbl, fx := [], sum := [], nt := 26, pin := 1, nr := true, ys := [] }
theorem L_plaitref01_Rows_lent1_5_ok : CSound Try.prog ⟨26, 1, true⟩ (.loop (loopOf 5 Try.f17)) (pieceSpec sh_plaitref01_Rows_lent1_5 es_plaitref01_Rows_lent1_5 (loop L_plaitref01_Rows_lent1_5)) :=
  loop_sound (C := cx_plaitref01_Rows_lent1_5) (ctxOK mixed tbl_ok rfl trivial trivial) (SumOK.of trivial) sh_plaitref01_Rows_lent1_5 es_plaitref01_Rows_lent1_5 rfl rfl L_plaitref01_Rows_lent1_5 (fun x => by kernel_rfl)
abbrev si_plaitref01_Rows_lent1 : Shape := { sl := [(0, (.hole (.slice (.int .i64)))), (1, (.sl 0))], bl := [.row (.int .i64)], ts := [(.slice (.int .i64)), (.slice (.int .i64))], pin := 0 }
abbrev so_plaitref01_Rows_lent1 : Shape := { sl := [(0, (.hole .bool))], bl := [.row (.int .i64)], ts := [.bool, (.slice (.int .i64))], pin := 1 }
noncomputable def F_plaitref01_Rows_lent1 (x : (List (Int) × List (Int))) : Option (Bool × List (Int)) :=
  bif ((((List.length x.1) : Nat) : Int) != (((List.length x.2) : Nat) : Int)) then
    some (false, x.2)
  else
    ((loop L_plaitref01_Rows_lent1_5 (x.1, ((((List.length x.1) : Nat) : Int), ((0 : Int), x.2))))).bind fun r7 =>
    match r7 with
    | .inl y8 =>
      some (y8.1, y8.2)
    | .inr y8 =>
      some (true, y8)
noncomputable def cx_plaitref01_Rows_lent1 : Ctx := { tb := mkTb T2.tbl, fx := [], sum := [(0, 5, pieceSpec sh_plaitref01_Rows_lent1_5 es_plaitref01_Rows_lent1_5 (loop L_plaitref01_Rows_lent1_5))], nt := 26, pin := 1, nr := true, ys := [] }
theorem F_plaitref01_Rows_lent1_ok : Sound Try.prog 17 (Spec.shp si_plaitref01_Rows_lent1 so_plaitref01_Rows_lent1 F_plaitref01_Rows_lent1) :=
  Sound.shp (C := cx_plaitref01_Rows_lent1) (fn := Try.f17) (by kernel_rfl) (c := bodyOf Try.f17) (by kernel_rfl) (by decide) (ctxOK mixed tbl_ok rfl trivial trivial) (SumOK.of ⟨(pieces_one (d := .loop (loopOf 5 Try.f17)) (by kernel_rfl) L_plaitref01_Rows_lent1_5_ok), trivial⟩) (by kernel_rfl) si_plaitref01_Rows_lent1 so_plaitref01_Rows_lent1 rfl (by decide) (by decide) rfl (by decide) rfl F_plaitref01_Rows_lent1 (fun x => by kernel_rfl)
abbrev si_plaitlaw04_alive : Shape := { sl := [], bl := [], ts := [], pin := 0 }
abbrev so_plaitlaw04_alive : Shape := { sl := [(0, (.hole .bool))], bl := [], ts := [.bool], pin := 0 }
noncomputable def F_plaitlaw04_alive (x : Unit) : Option (Bool) :=
  ((F_ring_Items ((2 : Int), ((1 : Int), (((7 : Int) :: ((5 : Int) :: ([] : List Int))), (2 : Int)))))).bind fun r5 =>
  bif (r5.2 == (0 : Int)) then
    ((F_plaitref01_Rows_lent1 (r5.1, ((5 : Int) :: ((7 : Int) :: ([] : List Int)))))).bind fun r6 =>
    some r6.1
  else
    some false
noncomputable def cx_plaitlaw04_alive : Ctx := { tb := mkTb T2.tbl, fx := [(16, [2000000], Spec.shp si_ring_Items so_ring_Items F_ring_Items), (17, [2000000], Spec.shp si_plaitref01_Rows_lent1 so_plaitref01_Rows_lent1 F_plaitref01_Rows_lent1)], sum := [], nt := 16, pin := 0, nr := true, ys := [] }
theorem F_plaitlaw04_alive_ok : Sound Try.prog 19 (Spec.shp si_plaitlaw04_alive so_plaitlaw04_alive F_plaitlaw04_alive) :=
  Sound.shp (C := cx_plaitlaw04_alive) (fn := Try.f19) (by kernel_rfl) (c := bodyOf Try.f19) (by kernel_rfl) (by decide) (ctxOK mixed tbl_ok rfl ⟨F_ring_Items_ok, F_plaitref01_Rows_lent1_ok, trivial⟩ trivial) (SumOK.of trivial) (by kernel_rfl) si_plaitlaw04_alive so_plaitlaw04_alive rfl (by decide) (by decide) rfl (by decide) rfl F_plaitlaw04_alive (fun x => by kernel_rfl)
abbrev si_plaitlaw04_empty : Shape := { sl := [(0, (.hole (.pair (.int .i64) (.pair (.int .i64) (.pair (.slice (.int .i64)) (.int .i64))))))], bl := [], ts := [(.pair (.int .i64) (.pair (.int .i64) (.pair (.slice (.int .i64)) (.int .i64))))], pin := 0 }
abbrev so_plaitlaw04_empty : Shape := { sl := [(0, (.hole .bool))], bl := [], ts := [.bool], pin := 0 }
noncomputable def F_plaitlaw04_empty (x : ((Int × (Int × (List (Int) × Int))))) : Option (Bool) :=
  bif (x.1 == (0 : Int)) then
    bif (x.2.1 == (0 : Int)) then
      bif (x.2.2.2 == (0 : Int)) then
        some ((((List.length x.2.2.1) : Nat) : Int) == (0 : Int))
      else
        some false
    else
      some false
  else
    some false
noncomputable def cx_plaitlaw04_empty : Ctx := { tb := mkTb T2.tbl, fx := [], sum := [], nt := 22, pin := 0, nr := true, ys := [] }
theorem F_plaitlaw04_empty_ok : Sound Try.prog 22 (Spec.shp si_plaitlaw04_empty so_plaitlaw04_empty F_plaitlaw04_empty) :=
  Sound.shp (C := cx_plaitlaw04_empty) (fn := Try.f22) (by kernel_rfl) (c := bodyOf Try.f22) (by kernel_rfl) (by decide) (ctxOK mixed tbl_ok rfl trivial trivial) (SumOK.of trivial) (by kernel_rfl) si_plaitlaw04_empty so_plaitlaw04_empty rfl (by decide) (by decide) rfl (by decide) rfl F_plaitlaw04_empty (fun x => by kernel_rfl)
abbrev sh_plaitref01_Rows_5 : Shape := { sl := [(0, (.hole (.slice (.int .i64)))), (1, (.hole (.slice (.int .i64)))), (12, (.hole (.int .i64))), (13, (.hole (.int .i64)))], bl := [], ts := [(.slice (.int .i64)), (.slice (.int .i64)), (.int .i64), (.int .i64)], pin := 0 }
abbrev es_plaitref01_Rows_5 : List (ETag × Shape) := [(.ret, { sl := [(4, (.hole .bool))], bl := [], ts := [.bool], pin := 0 }), (.exit 0, { sl := [], bl := [], ts := [], pin := 0 })]
noncomputable def L_plaitref01_Rows_5 (x : (List (Int) × List (Int) × Int × Int)) : Option ((List (Int) × List (Int) × Int × Int) ⊕ ((Bool) ⊕ Unit)) :=
  bif (decide (x.2.2.2 < x.2.2.1)) then
    bif (Go.Proofs.Ytegbkaaibgdheaa.VX.inb x.2.2.2 (List.length x.1)) then
      bif (Go.Proofs.Ytegbkaaibgdheaa.VX.inb x.2.2.2 (List.length x.2.1)) then
        bif ((Go.Proofs.Ytegbkaaibgdheaa.VX.getAt (0 : Int) x.1 (Go.Proofs.Ytegbkaaibgdheaa.VX.toN x.2.2.2)) != (Go.Proofs.Ytegbkaaibgdheaa.VX.getAt (0 : Int) x.2.1 (Go.Proofs.Ytegbkaaibgdheaa.VX.toN x.2.2.2))) then
          some (.inr (.inl false))
        else
          some (.inl (x.1, (x.2.1, (x.2.2.1, (Go.IntKind.wrap Go.IntKind.i64 (x.2.2.2 + (1 : Int)))))))
      else
        none
    else
      none
  else
    some (.inr (.inr ()))
noncomputable def cx_plaitref01_Rows_5 : Ctx := { tb := mkTb T2.tbl, fx := [], sum := [], nt := 26, pin := 0, nr := true, ys := [] }
theorem L_plaitref01_Rows_5_ok : CSound Try.prog ⟨26, 0, true⟩ (.loop (loopOf 5 Try.f17)) (pieceSpec sh_plaitref01_Rows_5 es_plaitref01_Rows_5 (loop L_plaitref01_Rows_5)) :=
  loop_sound (C := cx_plaitref01_Rows_5) (ctxOK mixed tbl_ok rfl trivial trivial) (SumOK.of trivial) sh_plaitref01_Rows_5 es_plaitref01_Rows_5 rfl rfl L_plaitref01_Rows_5 (fun x => by kernel_rfl)
abbrev si_plaitref01_Rows : Shape := { sl := [(0, (.hole (.slice (.int .i64)))), (1, (.hole (.slice (.int .i64))))], bl := [], ts := [(.slice (.int .i64)), (.slice (.int .i64))], pin := 0 }
abbrev so_plaitref01_Rows : Shape := { sl := [(0, (.hole .bool))], bl := [], ts := [.bool], pin := 0 }
noncomputable def F_plaitref01_Rows (x : (List (Int) × List (Int))) : Option (Bool) :=
  bif ((((List.length x.1) : Nat) : Int) != (((List.length x.2) : Nat) : Int)) then
    some false
  else
    ((loop L_plaitref01_Rows_5 (x.1, (x.2, ((((List.length x.1) : Nat) : Int), (0 : Int)))))).bind fun r6 =>
    match r6 with
    | .inl y7 =>
      some y7
    | .inr y7 =>
      some true
noncomputable def cx_plaitref01_Rows : Ctx := { tb := mkTb T2.tbl, fx := [], sum := [(0, 5, pieceSpec sh_plaitref01_Rows_5 es_plaitref01_Rows_5 (loop L_plaitref01_Rows_5))], nt := 26, pin := 0, nr := true, ys := [] }
theorem F_plaitref01_Rows_ok : Sound Try.prog 17 (Spec.shp si_plaitref01_Rows so_plaitref01_Rows F_plaitref01_Rows) :=
  Sound.shp (C := cx_plaitref01_Rows) (fn := Try.f17) (by kernel_rfl) (c := bodyOf Try.f17) (by kernel_rfl) (by decide) (ctxOK mixed tbl_ok rfl trivial trivial) (SumOK.of ⟨(pieces_one (d := .loop (loopOf 5 Try.f17)) (by kernel_rfl) L_plaitref01_Rows_5_ok), trivial⟩) (by kernel_rfl) si_plaitref01_Rows so_plaitref01_Rows rfl (by decide) (by decide) rfl (by decide) rfl F_plaitref01_Rows (fun x => by kernel_rfl)
abbrev si_slices_Clone_int : Shape := { sl := [(0, (.hole (.slice (.int .i64))))], bl := [], ts := [(.slice (.int .i64))], pin := 0 }
abbrev so_slices_Clone_int : Shape := { sl := [(0, (.sl 0))], bl := [.row (.int .i64)], ts := [(.slice (.int .i64))], pin := 0 }
noncomputable def F_slices_Clone_int (x : (List (Int))) : Option (List (Int)) :=
  bif (@Nat.beq (List.length x) (0 : Nat)) then
    amb (
      some ([] : List Int)) (
      bif (Go.Proofs.Ytegbkaaibgdheaa.VX.fits ((List.length ([] : List Int)) + (List.length x))) then
        some (([] : List Int) ++ x)
      else
        none)
  else
    bif (Go.Proofs.Ytegbkaaibgdheaa.VX.fits ((List.length ([] : List Int)) + (List.length x))) then
      some (([] : List Int) ++ x)
    else
      none
noncomputable def cx_slices_Clone_int : Ctx := { tb := mkTb T2.tbl, fx := [], sum := [], nt := 8, pin := 0, nr := true, ys := [] }
theorem F_slices_Clone_int_ok : Sound Try.prog 60 (Spec.shp si_slices_Clone_int so_slices_Clone_int F_slices_Clone_int) :=
  Sound.shp (C := cx_slices_Clone_int) (fn := Try.f60) (by kernel_rfl) (c := bodyOf Try.f60) (by kernel_rfl) (by decide) (ctxOK mixed tbl_ok rfl trivial trivial) (SumOK.of trivial) (by kernel_rfl) si_slices_Clone_int so_slices_Clone_int rfl (by decide) (by decide) rfl (by decide) rfl F_slices_Clone_int (fun x => by kernel_rfl)
abbrev si_ring_places_at_lent : Shape := { sl := [(0, (.one (.pr (.hole (.int .i64)) (.pr (.hole (.int .i64)) (.pr (.sl 0) (.hole (.int .i64))))))), (1, (.hole (.int .i64)))], bl := [.row (.int .i64)], ts := [(.int .i64), (.int .i64), (.int .i64), (.int .i64), (.slice (.int .i64))], pin := 0 }
abbrev so_ring_places_at_lent : Shape := { sl := [(0, (.hole (.int .i64)))], bl := [.row (.int .i64)], ts := [(.int .i64), (.slice (.int .i64))], pin := 1 }
noncomputable def F_ring_places_at_lent (x : (Int × Int × Int × Int × List (Int))) : Option (Int × List (Int)) :=
  bif (x.1 != (0 : Int)) then
    some ((Int.tmod (Go.IntKind.wrap Go.IntKind.i64 (x.2.1 + x.2.2.2.1)) x.1), x.2.2.2.2)
  else
    none
noncomputable def cx_ring_places_at_lent : Ctx := { tb := mkTb T2.tbl, fx := [], sum := [], nt := 14, pin := 1, nr := true, ys := [] }
theorem F_ring_places_at_lent_ok : Sound Try.prog 59 (Spec.shp si_ring_places_at_lent so_ring_places_at_lent F_ring_places_at_lent) :=
  Sound.shp (C := cx_ring_places_at_lent) (fn := Try.f59) (by kernel_rfl) (c := bodyOf Try.f59) (by kernel_rfl) (by decide) (ctxOK mixed tbl_ok rfl trivial trivial) (SumOK.of trivial) (by kernel_rfl) si_ring_places_at_lent so_ring_places_at_lent rfl (by decide) (by decide) rfl (by decide) rfl F_ring_places_at_lent (fun x => by kernel_rfl)
abbrev si_ring_Push : Shape := { sl := [(0, (.hole (.pair (.int .i64) (.pair (.int .i64) (.pair (.slice (.int .i64)) (.int .i64)))))), (1, (.hole (.int .i64)))], bl := [], ts := [(.pair (.int .i64) (.pair (.int .i64) (.pair (.slice (.int .i64)) (.int .i64)))), (.int .i64)], pin := 0 }
abbrev so_ring_Push : Shape := { sl := [(0, (.hole (.pair (.int .i64) (.pair (.int .i64) (.pair (.slice (.int .i64)) (.int .i64)))))), (1, (.hole (.int .i64)))], bl := [], ts := [(.pair (.int .i64) (.pair (.int .i64) (.pair (.slice (.int .i64)) (.int .i64)))), (.int .i64)], pin := 0 }
noncomputable def F_ring_Push (x : ((Int × (Int × (List (Int) × Int))) × Int)) : Option ((Int × (Int × (List (Int) × Int))) × Int) :=
  ((F_ring_Right x.1)).bind fun r9 =>
  bif (Bool.not r9) then
    some (((0 : Int), ((0 : Int), (([] : List Int), (0 : Int)))), (1 : Int))
  else
    bif (x.1.2.2.2 == x.1.1) then
      some (((0 : Int), ((0 : Int), (([] : List Int), (0 : Int)))), (5 : Int))
    else
      ((F_slices_Clone_int x.1.2.2.1)).bind fun r10 =>
      ((F_ring_places_at_lent (x.1.1, (x.1.2.1, (x.1.2.2.2, (x.1.2.2.2, r10)))))).bind fun r11 =>
      bif (Go.Proofs.Ytegbkaaibgdheaa.VX.inb r11.1 (List.length r11.2)) then
        some ((x.1.1, (x.1.2.1, ((List.set r11.2 (Go.Proofs.Ytegbkaaibgdheaa.VX.toN r11.1) x.2), (Go.IntKind.wrap Go.IntKind.i64 (x.1.2.2.2 + (1 : Int)))))), (0 : Int))
      else
        none
noncomputable def cx_ring_Push : Ctx := { tb := mkTb T2.tbl, fx := [(18, [], Spec.shp si_ring_Right so_ring_Right F_ring_Right), (60, [], Spec.shp si_slices_Clone_int so_slices_Clone_int F_slices_Clone_int), (59, [2000000], Spec.shp si_ring_places_at_lent so_ring_places_at_lent F_ring_places_at_lent)], sum := [], nt := 38, pin := 0, nr := true, ys := [] }
theorem F_ring_Push_ok : Sound Try.prog 14 (Spec.shp si_ring_Push so_ring_Push F_ring_Push) :=
  Sound.shp (C := cx_ring_Push) (fn := Try.f14) (by kernel_rfl) (c := bodyOf Try.f14) (by kernel_rfl) (by decide) (ctxOK mixed tbl_ok rfl ⟨F_ring_Right_ok, F_slices_Clone_int_ok, F_ring_places_at_lent_ok, trivial⟩ trivial) (SumOK.of trivial) (by kernel_rfl) si_ring_Push so_ring_Push rfl (by decide) (by decide) rfl (by decide) rfl F_ring_Push (fun x => by kernel_rfl)
abbrev sh_plaitlaw04_RingGrows_11 : Shape := { sl := [(1, (.hole (.int .i64))), (2, (.hole (.int .i64))), (7, (.hole (.slice (.int .i64)))), (9, (.ptr 0 [])), (78, (.hole (.int .i64))), (79, (.hole (.int .i64)))], bl := [.var (.hole (.pair (.int .i64) (.pair (.int .i64) (.pair (.slice (.int .i64)) (.int .i64)))))], ts := [(.int .i64), (.int .i64), (.slice (.int .i64)), (.int .i64), (.int .i64), (.pair (.int .i64) (.pair (.int .i64) (.pair (.slice (.int .i64)) (.int .i64))))], pin := 0 }
abbrev es_plaitlaw04_RingGrows_11 : List (ETag × Shape) := [(.ret, { sl := [(6, (.hole .bool))], bl := [], ts := [.bool], pin := 0 }), (.exit 0, { sl := [(1, (.hole (.int .i64))), (2, (.hole (.int .i64))), (7, (.hole (.slice (.int .i64)))), (9, (.ptr 0 []))], bl := [.var (.hole (.pair (.int .i64) (.pair (.int .i64) (.pair (.slice (.int .i64)) (.int .i64)))))], ts := [(.int .i64), (.int .i64), (.slice (.int .i64)), (.pair (.int .i64) (.pair (.int .i64) (.pair (.slice (.int .i64)) (.int .i64))))], pin := 0 })]
noncomputable def L_plaitlaw04_RingGrows_11 (x : (Int × Int × List (Int) × Int × Int × (Int × (Int × (List (Int) × Int))))) : Option ((Int × Int × List (Int) × Int × Int × (Int × (Int × (List (Int) × Int)))) ⊕ ((Bool) ⊕ (Int × Int × List (Int) × (Int × (Int × (List (Int) × Int)))))) :=
  bif (decide (x.2.2.2.2.1 < x.2.2.2.1)) then
    ((F_ring_Push (x.2.2.2.2.2, (Go.IntKind.wrap Go.IntKind.i64 (x.2.1 + x.2.2.2.2.1))))).bind fun r8 =>
    bif (r8.2 != (0 : Int)) then
      some (.inr (.inl false))
    else
      some (.inl (x.1, (x.2.1, (x.2.2.1, (x.2.2.2.1, ((Go.IntKind.wrap Go.IntKind.i64 (x.2.2.2.2.1 + (1 : Int))), r8.1))))))
  else
    some (.inr (.inr (x.1, (x.2.1, (x.2.2.1, x.2.2.2.2.2)))))
noncomputable def cx_plaitlaw04_RingGrows_11 : Ctx := { tb := mkTb T2.tbl, fx := [(20, [], Spec.shp si_plaitlaw04_few so_plaitlaw04_few F_plaitlaw04_few), (16, [], Spec.shp si_ring_Items so_ring_Items F_ring_Items), (21, [], Spec.shp si_ring_Grow so_ring_Grow F_ring_Grow), (19, [], Spec.shp si_plaitlaw04_alive so_plaitlaw04_alive F_plaitlaw04_alive), (22, [], Spec.shp si_plaitlaw04_empty so_plaitlaw04_empty F_plaitlaw04_empty), (17, [], Spec.shp si_plaitref01_Rows so_plaitref01_Rows F_plaitref01_Rows), (14, [], Spec.shp si_ring_Push so_ring_Push F_ring_Push)], sum := [], nt := 148, pin := 0, nr := true, ys := [] }
theorem L_plaitlaw04_RingGrows_11_ok : CSound Try.prog ⟨148, 0, true⟩ (.loop (loopOf 11 Try.f4)) (pieceSpec sh_plaitlaw04_RingGrows_11 es_plaitlaw04_RingGrows_11 (loop L_plaitlaw04_RingGrows_11)) :=
  loop_sound (C := cx_plaitlaw04_RingGrows_11) (ctxOK mixed tbl_ok rfl ⟨F_plaitlaw04_few_ok, F_ring_Items_ok, F_ring_Grow_ok, F_plaitlaw04_alive_ok, F_plaitlaw04_empty_ok, F_plaitref01_Rows_ok, F_ring_Push_ok, trivial⟩ trivial) (SumOK.of trivial) sh_plaitlaw04_RingGrows_11 es_plaitlaw04_RingGrows_11 rfl rfl L_plaitlaw04_RingGrows_11 (fun x => by kernel_rfl)
abbrev si_ring_Pop : Shape := { sl := [(0, (.hole (.pair (.int .i64) (.pair (.int .i64) (.pair (.slice (.int .i64)) (.int .i64))))))], bl := [], ts := [(.pair (.int .i64) (.pair (.int .i64) (.pair (.slice (.int .i64)) (.int .i64))))], pin := 0 }
abbrev so_ring_Pop : Shape := { sl := [(0, (.hole (.pair (.int .i64) (.pair (.int .i64) (.pair (.slice (.int .i64)) (.int .i64)))))), (1, (.hole (.int .i64))), (2, (.hole (.int .i64)))], bl := [], ts := [(.pair (.int .i64) (.pair (.int .i64) (.pair (.slice (.int .i64)) (.int .i64)))), (.int .i64), (.int .i64)], pin := 0 }
noncomputable def F_ring_Pop (x : ((Int × (Int × (List (Int) × Int))))) : Option ((Int × (Int × (List (Int) × Int))) × Int × Int) :=
  ((F_ring_Right x)).bind fun r11 =>
  bif (Bool.not r11) then
    some (((0 : Int), ((0 : Int), (([] : List Int), (0 : Int)))), ((0 : Int), (1 : Int)))
  else
    bif (x.2.2.2 == (0 : Int)) then
      some (((0 : Int), ((0 : Int), (([] : List Int), (0 : Int)))), ((0 : Int), (4 : Int)))
    else
      ((F_ring_places_at (x, (0 : Int)))).bind fun r12 =>
      bif (Go.Proofs.Ytegbkaaibgdheaa.VX.inb r12 (List.length x.2.2.1)) then
        ((F_ring_places_at (x, (1 : Int)))).bind fun r13 =>
        some ((x.1, (r13, (x.2.2.1, (Go.IntKind.wrap Go.IntKind.i64 (x.2.2.2 - (1 : Int)))))), ((Go.Proofs.Ytegbkaaibgdheaa.VX.getAt (0 : Int) x.2.2.1 (Go.Proofs.Ytegbkaaibgdheaa.VX.toN r12)), (0 : Int)))
      else
        none
noncomputable def cx_ring_Pop : Ctx := { tb := mkTb T2.tbl, fx := [(18, [], Spec.shp si_ring_Right so_ring_Right F_ring_Right), (59, [], Spec.shp si_ring_places_at so_ring_places_at F_ring_places_at)], sum := [], nt := 34, pin := 0, nr := true, ys := [] }
theorem F_ring_Pop_ok : Sound Try.prog 15 (Spec.shp si_ring_Pop so_ring_Pop F_ring_Pop) :=
  Sound.shp (C := cx_ring_Pop) (fn := Try.f15) (by kernel_rfl) (c := bodyOf Try.f15) (by kernel_rfl) (by decide) (ctxOK mixed tbl_ok rfl ⟨F_ring_Right_ok, F_ring_places_at_ok, trivial⟩ trivial) (SumOK.of trivial) (by kernel_rfl) si_ring_Pop so_ring_Pop rfl (by decide) (by decide) rfl (by decide) rfl F_ring_Pop (fun x => by kernel_rfl)
noncomputable def F_plaitlaw04_RingGrows (x : ((Int × (Int × (List (Int) × Int))) × Int × Int)) : Option (Bool) :=
  ((F_plaitlaw04_few x.1)).bind fun r1 =>
  ((F_ring_Items r1)).bind fun r2 =>
  ((F_ring_Grow (r1, x.2.1))).bind fun r3 =>
  bif (r2.2 != (0 : Int)) then
    ((F_plaitlaw04_alive ())).bind fun r4 =>
    bif r4 then
      ((F_plaitlaw04_empty r3.1)).bind fun r5 =>
      some r5
    else
      some false
  else
    bif (r3.2 != (0 : Int)) then
      ((F_plaitlaw04_alive ())).bind fun r4 =>
      bif r4 then
        ((F_plaitlaw04_empty r3.1)).bind fun r5 =>
        some r5
      else
        some false
    else
      ((F_ring_Items r3.1)).bind fun r4 =>
      bif (r4.2 != (0 : Int)) then
        some false
      else
        ((F_plaitref01_Rows (r2.1, r4.1))).bind fun r5 =>
        bif (Bool.not r5) then
          some false
        else
          bif (decide ((((List.length r2.1) : Nat) : Int) > x.2.1)) then
            some false
          else
            bif (decide (x.2.1 > (8 : Int))) then
              some false
            else
              ((F_plaitlaw04_alive ())).bind fun r6 =>
              bif (Bool.not r6) then
                some false
              else
                ((loop L_plaitlaw04_RingGrows_11 (x.2.1, (x.2.2, (r2.1, ((Go.IntKind.wrap Go.IntKind.i64 (x.2.1 - (((List.length r2.1) : Nat) : Int))), ((0 : Int), r3.1))))))).bind fun r7 =>
                match r7 with
                | .inl y8 =>
                  some y8
                | .inr y8 =>
                  ((F_ring_Push (y8.2.2.2, y8.2.1))).bind fun r9 =>
                  ((F_ring_Pop y8.2.2.2)).bind fun r10 =>
                  bif (y8.1 == (0 : Int)) then
                    bif (r9.2 == (5 : Int)) then
                      some (r10.2.2 == (4 : Int))
                    else
                      some false
                  else
                    ((F_ring_Items r10.1)).bind fun r11 =>
                    bif (decide ((((List.length y8.2.2.1) : Nat) : Int) > (0 : Int))) then
                      bif (Go.Proofs.Ytegbkaaibgdheaa.VX.inb (0 : Int) (List.length y8.2.2.1)) then
                        bif (r9.2 == (5 : Int)) then
                          bif (r10.2.2 == (0 : Int)) then
                            bif (r11.2 == (0 : Int)) then
                              bif (r10.2.1 == (Go.Proofs.Ytegbkaaibgdheaa.VX.getAt (0 : Int) y8.2.2.1 (Go.Proofs.Ytegbkaaibgdheaa.VX.toN (0 : Int)))) then
                                some ((((List.length r11.1) : Nat) : Int) == (Go.IntKind.wrap Go.IntKind.i64 (y8.1 - (1 : Int))))
                              else
                                some false
                            else
                              some false
                          else
                            some false
                        else
                          some false
                      else
                        none
                    else
                      bif (r9.2 == (5 : Int)) then
                        bif (r10.2.2 == (0 : Int)) then
                          bif (r11.2 == (0 : Int)) then
                            bif (r10.2.1 == y8.2.1) then
                              some ((((List.length r11.1) : Nat) : Int) == (Go.IntKind.wrap Go.IntKind.i64 (y8.1 - (1 : Int))))
                            else
                              some false
                          else
                            some false
                        else
                          some false
                      else
                        some false
noncomputable def cx_plaitlaw04_RingGrows : Ctx := { tb := mkTb T2.tbl, fx := [(20, [], Spec.shp si_plaitlaw04_few so_plaitlaw04_few F_plaitlaw04_few), (16, [], Spec.shp si_ring_Items so_ring_Items F_ring_Items), (21, [], Spec.shp si_ring_Grow so_ring_Grow F_ring_Grow), (19, [], Spec.shp si_plaitlaw04_alive so_plaitlaw04_alive F_plaitlaw04_alive), (22, [], Spec.shp si_plaitlaw04_empty so_plaitlaw04_empty F_plaitlaw04_empty), (17, [], Spec.shp si_plaitref01_Rows so_plaitref01_Rows F_plaitref01_Rows), (14, [], Spec.shp si_ring_Push so_ring_Push F_ring_Push), (15, [], Spec.shp si_ring_Pop so_ring_Pop F_ring_Pop)], sum := [(0, 11, pieceSpec sh_plaitlaw04_RingGrows_11 es_plaitlaw04_RingGrows_11 (loop L_plaitlaw04_RingGrows_11))], nt := 148, pin := 0, nr := true, ys := [] }
theorem F_plaitlaw04_RingGrows_ok : Sound Try.prog 4 (Spec.pure [(.pair (.int .i64) (.pair (.int .i64) (.pair (.slice (.int .i64)) (.int .i64)))), (.int .i64), (.int .i64)] [.bool] F_plaitlaw04_RingGrows) :=
  Sound.pure (C := cx_plaitlaw04_RingGrows) (fn := Try.f4) (by kernel_rfl) (c := bodyOf Try.f4) (by kernel_rfl) (by decide) (ctxOK mixed tbl_ok rfl ⟨F_plaitlaw04_few_ok, F_ring_Items_ok, F_ring_Grow_ok, F_plaitlaw04_alive_ok, F_plaitlaw04_empty_ok, F_plaitref01_Rows_ok, F_ring_Push_ok, F_ring_Pop_ok, trivial⟩) (SumOK.of ⟨(pieces_one (d := .loop (loopOf 11 Try.f4)) (by kernel_rfl) L_plaitlaw04_RingGrows_11_ok), trivial⟩) (by kernel_rfl) rfl _ _ (by decide) _ (fun x => by kernel_rfl)
abbrev si_ring_New : Shape := { sl := [(0, (.hole (.int .i64)))], bl := [], ts := [(.int .i64)], pin := 0 }
abbrev so_ring_New : Shape := { sl := [(0, (.hole (.pair (.int .i64) (.pair (.int .i64) (.pair (.slice (.int .i64)) (.int .i64)))))), (1, (.hole (.int .i64)))], bl := [], ts := [(.pair (.int .i64) (.pair (.int .i64) (.pair (.slice (.int .i64)) (.int .i64)))), (.int .i64)], pin := 0 }
noncomputable def F_ring_New (x : (Int)) : Option ((Int × (Int × (List (Int) × Int))) × Int) :=
  bif (decide (x < (0 : Int))) then
    some (((0 : Int), ((0 : Int), (([] : List Int), (0 : Int)))), (2 : Int))
  else
    bif (decide (x > (8 : Int))) then
      some (((0 : Int), ((0 : Int), (([] : List Int), (0 : Int)))), (2 : Int))
    else
      bif (Go.Proofs.Ytegbkaaibgdheaa.VX.mkOK x x) then
        some ((x, ((0 : Int), ((List.replicate (Go.Proofs.Ytegbkaaibgdheaa.VX.toN x) (0 : Int)), (0 : Int)))), (0 : Int))
      else
        none
noncomputable def cx_ring_New : Ctx := { tb := mkTb T2.tbl, fx := [], sum := [], nt := 15, pin := 0, nr := true, ys := [] }
theorem F_ring_New_ok : Sound Try.prog 13 (Spec.shp si_ring_New so_ring_New F_ring_New) :=
  Sound.shp (C := cx_ring_New) (fn := Try.f13) (by kernel_rfl) (c := bodyOf Try.f13) (by kernel_rfl) (by decide) (ctxOK mixed tbl_ok rfl trivial trivial) (SumOK.of trivial) (by kernel_rfl) si_ring_New so_ring_New rfl (by decide) (by decide) rfl (by decide) rfl F_ring_New (fun x => by kernel_rfl)
abbrev si_plaitref04_Right : Shape := { sl := [(0, (.hole (.pair (.int .i64) (.pair (.int .i64) (.pair (.slice (.int .i64)) (.int .i64))))))], bl := [], ts := [(.pair (.int .i64) (.pair (.int .i64) (.pair (.slice (.int .i64)) (.int .i64))))], pin := 0 }
abbrev so_plaitref04_Right : Shape := { sl := [(0, (.hole .bool))], bl := [], ts := [.bool], pin := 0 }
noncomputable def F_plaitref04_Right (x : ((Int × (Int × (List (Int) × Int))))) : Option (Bool) :=
  bif (decide (x.1 < (0 : Int))) then
    some false
  else
    bif (decide (x.1 > (8 : Int))) then
      some false
    else
      bif ((((List.length x.2.2.1) : Nat) : Int) != x.1) then
        some false
      else
        bif (decide (x.2.2.2 < (0 : Int))) then
          some false
        else
          bif (decide (x.2.2.2 > x.1)) then
            some false
          else
            bif (x.2.1 == (0 : Int)) then
              some true
            else
              bif (decide (x.2.1 > (0 : Int))) then
                some (decide (x.2.1 < x.1))
              else
                some false
noncomputable def cx_plaitref04_Right : Ctx := { tb := mkTb T2.tbl, fx := [], sum := [], nt := 46, pin := 0, nr := true, ys := [] }
theorem F_plaitref04_Right_ok : Sound Try.prog 30 (Spec.shp si_plaitref04_Right so_plaitref04_Right F_plaitref04_Right) :=
  Sound.shp (C := cx_plaitref04_Right) (fn := Try.f30) (by kernel_rfl) (c := bodyOf Try.f30) (by kernel_rfl) (by decide) (ctxOK mixed tbl_ok rfl trivial trivial) (SumOK.of trivial) (by kernel_rfl) si_plaitref04_Right so_plaitref04_Right rfl (by decide) (by decide) rfl (by decide) rfl F_plaitref04_Right (fun x => by kernel_rfl)
abbrev sh_plaitref04_Items_4 : Shape := { sl := [(1, (.ptr 0 [])), (3, (.sl 1)), (4, (.hole (.int .i64)))], bl := [.var (.hole (.pair (.int .i64) (.pair (.int .i64) (.pair (.slice (.int .i64)) (.int .i64))))), .row (.int .i64)], ts := [(.int .i64), (.pair (.int .i64) (.pair (.int .i64) (.pair (.slice (.int .i64)) (.int .i64)))), (.slice (.int .i64))], pin := 0 }
abbrev es_plaitref04_Items_4 : List (ETag × Shape) := [(.exit 0, { sl := [(3, (.sl 0))], bl := [.row (.int .i64)], ts := [(.slice (.int .i64))], pin := 0 })]
noncomputable def L_plaitref04_Items_4 (x : (Int × (Int × (Int × (List (Int) × Int))) × List (Int))) : Option ((Int × (Int × (Int × (List (Int) × Int))) × List (Int)) ⊕ ((List (Int)))) :=
  bif (decide (x.1 < x.2.1.2.2.2)) then
    bif (decide ((Go.IntKind.wrap Go.IntKind.i64 (x.2.1.2.1 + x.1)) ≥ x.2.1.1)) then
      bif (Go.Proofs.Ytegbkaaibgdheaa.VX.inb (Go.IntKind.wrap Go.IntKind.i64 ((Go.IntKind.wrap Go.IntKind.i64 (x.2.1.2.1 + x.1)) - x.2.1.1)) (List.length x.2.1.2.2.1)) then
        bif (Go.Proofs.Ytegbkaaibgdheaa.VX.fits ((List.length x.2.2) + (List.length ((Go.Proofs.Ytegbkaaibgdheaa.VX.getAt (0 : Int) x.2.1.2.2.1 (Go.Proofs.Ytegbkaaibgdheaa.VX.toN (Go.IntKind.wrap Go.IntKind.i64 ((Go.IntKind.wrap Go.IntKind.i64 (x.2.1.2.1 + x.1)) - x.2.1.1)))) :: ([] : List Int))))) then
          some (.inl ((Go.IntKind.wrap Go.IntKind.i64 (x.1 + (1 : Int))), (x.2.1, (x.2.2 ++ ((Go.Proofs.Ytegbkaaibgdheaa.VX.getAt (0 : Int) x.2.1.2.2.1 (Go.Proofs.Ytegbkaaibgdheaa.VX.toN (Go.IntKind.wrap Go.IntKind.i64 ((Go.IntKind.wrap Go.IntKind.i64 (x.2.1.2.1 + x.1)) - x.2.1.1)))) :: ([] : List Int))))))
        else
          none
      else
        none
    else
      bif (Go.Proofs.Ytegbkaaibgdheaa.VX.inb (Go.IntKind.wrap Go.IntKind.i64 (x.2.1.2.1 + x.1)) (List.length x.2.1.2.2.1)) then
        bif (Go.Proofs.Ytegbkaaibgdheaa.VX.fits ((List.length x.2.2) + (List.length ((Go.Proofs.Ytegbkaaibgdheaa.VX.getAt (0 : Int) x.2.1.2.2.1 (Go.Proofs.Ytegbkaaibgdheaa.VX.toN (Go.IntKind.wrap Go.IntKind.i64 (x.2.1.2.1 + x.1)))) :: ([] : List Int))))) then
          some (.inl ((Go.IntKind.wrap Go.IntKind.i64 (x.1 + (1 : Int))), (x.2.1, (x.2.2 ++ ((Go.Proofs.Ytegbkaaibgdheaa.VX.getAt (0 : Int) x.2.1.2.2.1 (Go.Proofs.Ytegbkaaibgdheaa.VX.toN (Go.IntKind.wrap Go.IntKind.i64 (x.2.1.2.1 + x.1)))) :: ([] : List Int))))))
        else
          none
      else
        none
  else
    some (.inr x.2.2)
noncomputable def cx_plaitref04_Items_4 : Ctx := { tb := mkTb T2.tbl, fx := [], sum := [], nt := 34, pin := 0, nr := true, ys := [] }
theorem L_plaitref04_Items_4_ok : CSound Try.prog ⟨34, 0, true⟩ (.loop (loopOf 4 Try.f32)) (pieceSpec sh_plaitref04_Items_4 es_plaitref04_Items_4 (loop L_plaitref04_Items_4)) :=
  loop_sound (C := cx_plaitref04_Items_4) (ctxOK mixed tbl_ok rfl trivial trivial) (SumOK.of trivial) sh_plaitref04_Items_4 es_plaitref04_Items_4 rfl rfl L_plaitref04_Items_4 (fun x => by kernel_rfl)
abbrev si_plaitref04_Items : Shape := { sl := [(0, (.hole (.pair (.int .i64) (.pair (.int .i64) (.pair (.slice (.int .i64)) (.int .i64))))))], bl := [], ts := [(.pair (.int .i64) (.pair (.int .i64) (.pair (.slice (.int .i64)) (.int .i64))))], pin := 0 }
abbrev so_plaitref04_Items : Shape := { sl := [(0, (.hole (.slice (.int .i64))))], bl := [], ts := [(.slice (.int .i64))], pin := 0 }
noncomputable def F_plaitref04_Items (x : ((Int × (Int × (List (Int) × Int))))) : Option (List (Int)) :=
  ((loop L_plaitref04_Items_4 ((0 : Int), (x, ([] : List Int))))).bind fun r12 =>
  some r12
noncomputable def cx_plaitref04_Items : Ctx := { tb := mkTb T2.tbl, fx := [], sum := [(0, 4, pieceSpec sh_plaitref04_Items_4 es_plaitref04_Items_4 (loop L_plaitref04_Items_4))], nt := 34, pin := 0, nr := true, ys := [] }
theorem F_plaitref04_Items_ok : Sound Try.prog 32 (Spec.shp si_plaitref04_Items so_plaitref04_Items F_plaitref04_Items) :=
  Sound.shp (C := cx_plaitref04_Items) (fn := Try.f32) (by kernel_rfl) (c := bodyOf Try.f32) (by kernel_rfl) (by decide) (ctxOK mixed tbl_ok rfl trivial trivial) (SumOK.of ⟨(pieces_one (d := .loop (loopOf 4 Try.f32)) (by kernel_rfl) L_plaitref04_Items_4_ok), trivial⟩) (by kernel_rfl) si_plaitref04_Items so_plaitref04_Items rfl (by decide) (by decide) rfl (by decide) rfl F_plaitref04_Items (fun x => by kernel_rfl)
abbrev sh_plaitref04_Is_5 : Shape := { sl := [(2, (.hole (.slice (.int .i64)))), (26, (.hole (.slice (.int .i64)))), (27, (.hole (.int .i64))), (28, (.hole (.int .i64)))], bl := [], ts := [(.slice (.int .i64)), (.slice (.int .i64)), (.int .i64), (.int .i64)], pin := 0 }
abbrev es_plaitref04_Is_5 : List (ETag × Shape) := [(.ret, { sl := [(6, (.hole .bool))], bl := [], ts := [.bool], pin := 0 }), (.exit 0, { sl := [], bl := [], ts := [], pin := 0 })]
noncomputable def L_plaitref04_Is_5 (x : (List (Int) × List (Int) × Int × Int)) : Option ((List (Int) × List (Int) × Int × Int) ⊕ ((Bool) ⊕ Unit)) :=
  bif (decide (x.2.2.2 < x.2.2.1)) then
    bif (Go.Proofs.Ytegbkaaibgdheaa.VX.inb x.2.2.2 (List.length x.2.1)) then
      bif (Go.Proofs.Ytegbkaaibgdheaa.VX.inb x.2.2.2 (List.length x.1)) then
        bif ((Go.Proofs.Ytegbkaaibgdheaa.VX.getAt (0 : Int) x.2.1 (Go.Proofs.Ytegbkaaibgdheaa.VX.toN x.2.2.2)) != (Go.Proofs.Ytegbkaaibgdheaa.VX.getAt (0 : Int) x.1 (Go.Proofs.Ytegbkaaibgdheaa.VX.toN x.2.2.2))) then
          some (.inr (.inl false))
        else
          some (.inl (x.1, (x.2.1, (x.2.2.1, (Go.IntKind.wrap Go.IntKind.i64 (x.2.2.2 + (1 : Int)))))))
      else
        none
    else
      none
  else
    some (.inr (.inr ()))
noncomputable def cx_plaitref04_Is_5 : Ctx := { tb := mkTb T2.tbl, fx := [(30, [], Spec.shp si_plaitref04_Right so_plaitref04_Right F_plaitref04_Right), (32, [], Spec.shp si_plaitref04_Items so_plaitref04_Items F_plaitref04_Items)], sum := [], nt := 40, pin := 0, nr := true, ys := [] }
theorem L_plaitref04_Is_5_ok : CSound Try.prog ⟨40, 0, true⟩ (.loop (loopOf 5 Try.f31)) (pieceSpec sh_plaitref04_Is_5 es_plaitref04_Is_5 (loop L_plaitref04_Is_5)) :=
  loop_sound (C := cx_plaitref04_Is_5) (ctxOK mixed tbl_ok rfl ⟨F_plaitref04_Right_ok, F_plaitref04_Items_ok, trivial⟩ trivial) (SumOK.of trivial) sh_plaitref04_Is_5 es_plaitref04_Is_5 rfl rfl L_plaitref04_Is_5 (fun x => by kernel_rfl)
abbrev si_plaitref04_Is : Shape := { sl := [(0, (.hole (.pair (.int .i64) (.pair (.int .i64) (.pair (.slice (.int .i64)) (.int .i64)))))), (1, (.hole (.int .i64))), (2, (.hole (.slice (.int .i64))))], bl := [], ts := [(.pair (.int .i64) (.pair (.int .i64) (.pair (.slice (.int .i64)) (.int .i64)))), (.int .i64), (.slice (.int .i64))], pin := 0 }
abbrev so_plaitref04_Is : Shape := { sl := [(0, (.hole .bool))], bl := [], ts := [.bool], pin := 0 }
noncomputable def F_plaitref04_Is (x : ((Int × (Int × (List (Int) × Int))) × Int × List (Int))) : Option (Bool) :=
  ((F_plaitref04_Right x.1)).bind fun r16 =>
  bif (Bool.not r16) then
    some false
  else
    bif (x.1.1 != x.2.1) then
      some false
    else
      bif (x.1.2.2.2 != (((List.length x.2.2) : Nat) : Int)) then
        some false
      else
        ((F_plaitref04_Items x.1)).bind fun r17 =>
        ((loop L_plaitref04_Is_5 (x.2.2, (r17, ((((List.length r17) : Nat) : Int), (0 : Int)))))).bind fun r18 =>
        match r18 with
        | .inl y19 =>
          some y19
        | .inr y19 =>
          some true
noncomputable def cx_plaitref04_Is : Ctx := { tb := mkTb T2.tbl, fx := [(30, [], Spec.shp si_plaitref04_Right so_plaitref04_Right F_plaitref04_Right), (32, [], Spec.shp si_plaitref04_Items so_plaitref04_Items F_plaitref04_Items)], sum := [(0, 5, pieceSpec sh_plaitref04_Is_5 es_plaitref04_Is_5 (loop L_plaitref04_Is_5))], nt := 40, pin := 0, nr := true, ys := [] }
theorem F_plaitref04_Is_ok : Sound Try.prog 31 (Spec.shp si_plaitref04_Is so_plaitref04_Is F_plaitref04_Is) :=
  Sound.shp (C := cx_plaitref04_Is) (fn := Try.f31) (by kernel_rfl) (c := bodyOf Try.f31) (by kernel_rfl) (by decide) (ctxOK mixed tbl_ok rfl ⟨F_plaitref04_Right_ok, F_plaitref04_Items_ok, trivial⟩ trivial) (SumOK.of ⟨(pieces_one (d := .loop (loopOf 5 Try.f31)) (by kernel_rfl) L_plaitref04_Is_5_ok), trivial⟩) (by kernel_rfl) si_plaitref04_Is so_plaitref04_Is rfl (by decide) (by decide) rfl (by decide) rfl F_plaitref04_Is (fun x => by kernel_rfl)
noncomputable def F_plaitlaw04_RingTells (x : ((Int × (Int × (List (Int) × Int))) × Int × Int)) : Option (Bool) :=
  ((F_plaitlaw04_few x.1)).bind fun r1 =>
  ((F_ring_New x.2.1)).bind fun r2 =>
  ((F_ring_Push (r1, x.2.2))).bind fun r3 =>
  ((F_ring_Pop r1)).bind fun r4 =>
  ((F_ring_Items r1)).bind fun r5 =>
  ((F_ring_Grow (r1, x.2.1))).bind fun r6 =>
  ((F_plaitref04_Right r1)).bind fun r7 =>
  ((F_ring_Right r1)).bind fun r8 =>
  bif (Bool.not (Go.Proofs.Ytegbkaaibgdheaa.VX.Ty.beq Go.Proofs.Ytegbkaaibgdheaa.VX.Ty.bool r8 r7)) then
    some false
  else
    ((F_plaitlaw04_alive ())).bind fun r9 =>
    bif (Bool.not r9) then
      some false
    else
      bif (decide (x.2.1 < (0 : Int))) then
        bif (r2.2 != (2 : Int)) then
          some false
        else
          ((F_plaitlaw04_empty r2.1)).bind fun r10 =>
          bif (Bool.not r10) then
            some false
          else
            bif (Bool.not r7) then
              bif (r3.2 == (1 : Int)) then
                bif (r4.2.2 == (1 : Int)) then
                  bif (r5.2 == (1 : Int)) then
                    bif (r6.2 == (1 : Int)) then
                      ((F_plaitlaw04_empty r3.1)).bind fun r11 =>
                      bif r11 then
                        ((F_plaitlaw04_empty r4.1)).bind fun r12 =>
                        bif r12 then
                          ((F_plaitlaw04_empty r6.1)).bind fun r13 =>
                          bif r13 then
                            bif (r4.2.1 == (0 : Int)) then
                              some ((((List.length r5.1) : Nat) : Int) == (0 : Int))
                            else
                              some false
                          else
                            some false
                        else
                          some false
                      else
                        some false
                    else
                      some false
                  else
                    some false
                else
                  some false
              else
                some false
            else
              ((F_plaitref04_Items r1)).bind fun r11 =>
              bif (r5.2 != (0 : Int)) then
                some false
              else
                ((F_plaitref01_Rows (r5.1, r11))).bind fun r12 =>
                bif (Bool.not r12) then
                  some false
                else
                  bif ((((List.length r11) : Nat) : Int) == r1.1) then
                    bif (r3.2 != (5 : Int)) then
                      some false
                    else
                      ((F_plaitlaw04_empty r3.1)).bind fun r13 =>
                      bif (Bool.not r13) then
                        some false
                      else
                        bif ((((List.length r11) : Nat) : Int) == (0 : Int)) then
                          bif (r4.2.2 != (4 : Int)) then
                            some false
                          else
                            bif (r4.2.1 != (0 : Int)) then
                              some false
                            else
                              ((F_plaitlaw04_empty r4.1)).bind fun r14 =>
                              bif (Bool.not r14) then
                                some false
                              else
                                bif (decide (x.2.1 < (((List.length r11) : Nat) : Int))) then
                                  bif (r6.2 == (2 : Int)) then
                                    ((F_plaitlaw04_empty r6.1)).bind fun r15 =>
                                    some r15
                                  else
                                    some false
                                else
                                  bif (decide (x.2.1 > (8 : Int))) then
                                    bif (r6.2 == (2 : Int)) then
                                      ((F_plaitlaw04_empty r6.1)).bind fun r15 =>
                                      some r15
                                    else
                                      some false
                                  else
                                    bif (r6.2 == (0 : Int)) then
                                      ((F_plaitref04_Is (r6.1, (x.2.1, r11)))).bind fun r15 =>
                                      some r15
                                    else
                                      some false
                        else
                          bif (r4.2.2 != (0 : Int)) then
                            some false
                          else
                            bif (Go.Proofs.Ytegbkaaibgdheaa.VX.inb (0 : Int) (List.length r11)) then
                              bif (r4.2.1 != (Go.Proofs.Ytegbkaaibgdheaa.VX.getAt (0 : Int) r11 (Go.Proofs.Ytegbkaaibgdheaa.VX.toN (0 : Int)))) then
                                some false
                              else
                                bif (Go.Proofs.Ytegbkaaibgdheaa.VX.sub3 (1 : Int) (((List.length r11) : Nat) : Int) (List.length r11)) then
                                  ((F_plaitref04_Is (r4.1, (r1.1, (Go.Proofs.Ytegbkaaibgdheaa.VX.cut r11 (Go.Proofs.Ytegbkaaibgdheaa.VX.toN (1 : Int)) ((Go.Proofs.Ytegbkaaibgdheaa.VX.toN (((List.length r11) : Nat) : Int)) - (Go.Proofs.Ytegbkaaibgdheaa.VX.toN (1 : Int)))))))).bind fun r14 =>
                                  bif (Bool.not r14) then
                                    some false
                                  else
                                    bif (decide (x.2.1 < (((List.length r11) : Nat) : Int))) then
                                      bif (r6.2 == (2 : Int)) then
                                        ((F_plaitlaw04_empty r6.1)).bind fun r15 =>
                                        some r15
                                      else
                                        some false
                                    else
                                      bif (decide (x.2.1 > (8 : Int))) then
                                        bif (r6.2 == (2 : Int)) then
                                          ((F_plaitlaw04_empty r6.1)).bind fun r15 =>
                                          some r15
                                        else
                                          some false
                                      else
                                        bif (r6.2 == (0 : Int)) then
                                          ((F_plaitref04_Is (r6.1, (x.2.1, r11)))).bind fun r15 =>
                                          some r15
                                        else
                                          some false
                                else
                                  none
                            else
                              none
                  else
                    bif (r3.2 != (0 : Int)) then
                      some false
                    else
                      bif (Go.Proofs.Ytegbkaaibgdheaa.VX.fits ((List.length ([] : List Int)) + (List.length r11))) then
                        bif (Go.Proofs.Ytegbkaaibgdheaa.VX.fits ((List.length (([] : List Int) ++ r11)) + (List.length (x.2.2 :: ([] : List Int))))) then
                          ((F_plaitref04_Is (r3.1, (r1.1, ((([] : List Int) ++ r11) ++ (x.2.2 :: ([] : List Int))))))).bind fun r13 =>
                          bif (Bool.not r13) then
                            some false
                          else
                            bif ((((List.length r11) : Nat) : Int) == (0 : Int)) then
                              bif (r4.2.2 != (4 : Int)) then
                                some false
                              else
                                bif (r4.2.1 != (0 : Int)) then
                                  some false
                                else
                                  ((F_plaitlaw04_empty r4.1)).bind fun r14 =>
                                  bif (Bool.not r14) then
                                    some false
                                  else
                                    bif (decide (x.2.1 < (((List.length r11) : Nat) : Int))) then
                                      bif (r6.2 == (2 : Int)) then
                                        ((F_plaitlaw04_empty r6.1)).bind fun r15 =>
                                        some r15
                                      else
                                        some false
                                    else
                                      bif (decide (x.2.1 > (8 : Int))) then
                                        bif (r6.2 == (2 : Int)) then
                                          ((F_plaitlaw04_empty r6.1)).bind fun r15 =>
                                          some r15
                                        else
                                          some false
                                      else
                                        bif (r6.2 == (0 : Int)) then
                                          ((F_plaitref04_Is (r6.1, (x.2.1, r11)))).bind fun r15 =>
                                          some r15
                                        else
                                          some false
                            else
                              bif (r4.2.2 != (0 : Int)) then
                                some false
                              else
                                bif (Go.Proofs.Ytegbkaaibgdheaa.VX.inb (0 : Int) (List.length r11)) then
                                  bif (r4.2.1 != (Go.Proofs.Ytegbkaaibgdheaa.VX.getAt (0 : Int) r11 (Go.Proofs.Ytegbkaaibgdheaa.VX.toN (0 : Int)))) then
                                    some false
                                  else
                                    bif (Go.Proofs.Ytegbkaaibgdheaa.VX.sub3 (1 : Int) (((List.length r11) : Nat) : Int) (List.length r11)) then
                                      ((F_plaitref04_Is (r4.1, (r1.1, (Go.Proofs.Ytegbkaaibgdheaa.VX.cut r11 (Go.Proofs.Ytegbkaaibgdheaa.VX.toN (1 : Int)) ((Go.Proofs.Ytegbkaaibgdheaa.VX.toN (((List.length r11) : Nat) : Int)) - (Go.Proofs.Ytegbkaaibgdheaa.VX.toN (1 : Int)))))))).bind fun r14 =>
                                      bif (Bool.not r14) then
                                        some false
                                      else
                                        bif (decide (x.2.1 < (((List.length r11) : Nat) : Int))) then
                                          bif (r6.2 == (2 : Int)) then
                                            ((F_plaitlaw04_empty r6.1)).bind fun r15 =>
                                            some r15
                                          else
                                            some false
                                        else
                                          bif (decide (x.2.1 > (8 : Int))) then
                                            bif (r6.2 == (2 : Int)) then
                                              ((F_plaitlaw04_empty r6.1)).bind fun r15 =>
                                              some r15
                                            else
                                              some false
                                          else
                                            bif (r6.2 == (0 : Int)) then
                                              ((F_plaitref04_Is (r6.1, (x.2.1, r11)))).bind fun r15 =>
                                              some r15
                                            else
                                              some false
                                    else
                                      none
                                else
                                  none
                        else
                          none
                      else
                        none
      else
        bif (decide (x.2.1 > (8 : Int))) then
          bif (r2.2 != (2 : Int)) then
            some false
          else
            ((F_plaitlaw04_empty r2.1)).bind fun r10 =>
            bif (Bool.not r10) then
              some false
            else
              bif (Bool.not r7) then
                bif (r3.2 == (1 : Int)) then
                  bif (r4.2.2 == (1 : Int)) then
                    bif (r5.2 == (1 : Int)) then
                      bif (r6.2 == (1 : Int)) then
                        ((F_plaitlaw04_empty r3.1)).bind fun r11 =>
                        bif r11 then
                          ((F_plaitlaw04_empty r4.1)).bind fun r12 =>
                          bif r12 then
                            ((F_plaitlaw04_empty r6.1)).bind fun r13 =>
                            bif r13 then
                              bif (r4.2.1 == (0 : Int)) then
                                some ((((List.length r5.1) : Nat) : Int) == (0 : Int))
                              else
                                some false
                            else
                              some false
                          else
                            some false
                        else
                          some false
                      else
                        some false
                    else
                      some false
                  else
                    some false
                else
                  some false
              else
                ((F_plaitref04_Items r1)).bind fun r11 =>
                bif (r5.2 != (0 : Int)) then
                  some false
                else
                  ((F_plaitref01_Rows (r5.1, r11))).bind fun r12 =>
                  bif (Bool.not r12) then
                    some false
                  else
                    bif ((((List.length r11) : Nat) : Int) == r1.1) then
                      bif (r3.2 != (5 : Int)) then
                        some false
                      else
                        ((F_plaitlaw04_empty r3.1)).bind fun r13 =>
                        bif (Bool.not r13) then
                          some false
                        else
                          bif ((((List.length r11) : Nat) : Int) == (0 : Int)) then
                            bif (r4.2.2 != (4 : Int)) then
                              some false
                            else
                              bif (r4.2.1 != (0 : Int)) then
                                some false
                              else
                                ((F_plaitlaw04_empty r4.1)).bind fun r14 =>
                                bif (Bool.not r14) then
                                  some false
                                else
                                  bif (decide (x.2.1 < (((List.length r11) : Nat) : Int))) then
                                    bif (r6.2 == (2 : Int)) then
                                      ((F_plaitlaw04_empty r6.1)).bind fun r15 =>
                                      some r15
                                    else
                                      some false
                                  else
                                    bif (decide (x.2.1 > (8 : Int))) then
                                      bif (r6.2 == (2 : Int)) then
                                        ((F_plaitlaw04_empty r6.1)).bind fun r15 =>
                                        some r15
                                      else
                                        some false
                                    else
                                      bif (r6.2 == (0 : Int)) then
                                        ((F_plaitref04_Is (r6.1, (x.2.1, r11)))).bind fun r15 =>
                                        some r15
                                      else
                                        some false
                          else
                            bif (r4.2.2 != (0 : Int)) then
                              some false
                            else
                              bif (Go.Proofs.Ytegbkaaibgdheaa.VX.inb (0 : Int) (List.length r11)) then
                                bif (r4.2.1 != (Go.Proofs.Ytegbkaaibgdheaa.VX.getAt (0 : Int) r11 (Go.Proofs.Ytegbkaaibgdheaa.VX.toN (0 : Int)))) then
                                  some false
                                else
                                  bif (Go.Proofs.Ytegbkaaibgdheaa.VX.sub3 (1 : Int) (((List.length r11) : Nat) : Int) (List.length r11)) then
                                    ((F_plaitref04_Is (r4.1, (r1.1, (Go.Proofs.Ytegbkaaibgdheaa.VX.cut r11 (Go.Proofs.Ytegbkaaibgdheaa.VX.toN (1 : Int)) ((Go.Proofs.Ytegbkaaibgdheaa.VX.toN (((List.length r11) : Nat) : Int)) - (Go.Proofs.Ytegbkaaibgdheaa.VX.toN (1 : Int)))))))).bind fun r14 =>
                                    bif (Bool.not r14) then
                                      some false
                                    else
                                      bif (decide (x.2.1 < (((List.length r11) : Nat) : Int))) then
                                        bif (r6.2 == (2 : Int)) then
                                          ((F_plaitlaw04_empty r6.1)).bind fun r15 =>
                                          some r15
                                        else
                                          some false
                                      else
                                        bif (decide (x.2.1 > (8 : Int))) then
                                          bif (r6.2 == (2 : Int)) then
                                            ((F_plaitlaw04_empty r6.1)).bind fun r15 =>
                                            some r15
                                          else
                                            some false
                                        else
                                          bif (r6.2 == (0 : Int)) then
                                            ((F_plaitref04_Is (r6.1, (x.2.1, r11)))).bind fun r15 =>
                                            some r15
                                          else
                                            some false
                                  else
                                    none
                              else
                                none
                    else
                      bif (r3.2 != (0 : Int)) then
                        some false
                      else
                        bif (Go.Proofs.Ytegbkaaibgdheaa.VX.fits ((List.length ([] : List Int)) + (List.length r11))) then
                          bif (Go.Proofs.Ytegbkaaibgdheaa.VX.fits ((List.length (([] : List Int) ++ r11)) + (List.length (x.2.2 :: ([] : List Int))))) then
                            ((F_plaitref04_Is (r3.1, (r1.1, ((([] : List Int) ++ r11) ++ (x.2.2 :: ([] : List Int))))))).bind fun r13 =>
                            bif (Bool.not r13) then
                              some false
                            else
                              bif ((((List.length r11) : Nat) : Int) == (0 : Int)) then
                                bif (r4.2.2 != (4 : Int)) then
                                  some false
                                else
                                  bif (r4.2.1 != (0 : Int)) then
                                    some false
                                  else
                                    ((F_plaitlaw04_empty r4.1)).bind fun r14 =>
                                    bif (Bool.not r14) then
                                      some false
                                    else
                                      bif (decide (x.2.1 < (((List.length r11) : Nat) : Int))) then
                                        bif (r6.2 == (2 : Int)) then
                                          ((F_plaitlaw04_empty r6.1)).bind fun r15 =>
                                          some r15
                                        else
                                          some false
                                      else
                                        bif (decide (x.2.1 > (8 : Int))) then
                                          bif (r6.2 == (2 : Int)) then
                                            ((F_plaitlaw04_empty r6.1)).bind fun r15 =>
                                            some r15
                                          else
                                            some false
                                        else
                                          bif (r6.2 == (0 : Int)) then
                                            ((F_plaitref04_Is (r6.1, (x.2.1, r11)))).bind fun r15 =>
                                            some r15
                                          else
                                            some false
                              else
                                bif (r4.2.2 != (0 : Int)) then
                                  some false
                                else
                                  bif (Go.Proofs.Ytegbkaaibgdheaa.VX.inb (0 : Int) (List.length r11)) then
                                    bif (r4.2.1 != (Go.Proofs.Ytegbkaaibgdheaa.VX.getAt (0 : Int) r11 (Go.Proofs.Ytegbkaaibgdheaa.VX.toN (0 : Int)))) then
                                      some false
                                    else
                                      bif (Go.Proofs.Ytegbkaaibgdheaa.VX.sub3 (1 : Int) (((List.length r11) : Nat) : Int) (List.length r11)) then
                                        ((F_plaitref04_Is (r4.1, (r1.1, (Go.Proofs.Ytegbkaaibgdheaa.VX.cut r11 (Go.Proofs.Ytegbkaaibgdheaa.VX.toN (1 : Int)) ((Go.Proofs.Ytegbkaaibgdheaa.VX.toN (((List.length r11) : Nat) : Int)) - (Go.Proofs.Ytegbkaaibgdheaa.VX.toN (1 : Int)))))))).bind fun r14 =>
                                        bif (Bool.not r14) then
                                          some false
                                        else
                                          bif (decide (x.2.1 < (((List.length r11) : Nat) : Int))) then
                                            bif (r6.2 == (2 : Int)) then
                                              ((F_plaitlaw04_empty r6.1)).bind fun r15 =>
                                              some r15
                                            else
                                              some false
                                          else
                                            bif (decide (x.2.1 > (8 : Int))) then
                                              bif (r6.2 == (2 : Int)) then
                                                ((F_plaitlaw04_empty r6.1)).bind fun r15 =>
                                                some r15
                                              else
                                                some false
                                            else
                                              bif (r6.2 == (0 : Int)) then
                                                ((F_plaitref04_Is (r6.1, (x.2.1, r11)))).bind fun r15 =>
                                                some r15
                                              else
                                                some false
                                      else
                                        none
                                  else
                                    none
                          else
                            none
                        else
                          none
        else
          bif (r2.2 != (0 : Int)) then
            some false
          else
            ((F_plaitref04_Is (r2.1, (x.2.1, ([] : List Int))))).bind fun r10 =>
            bif (Bool.not r10) then
              some false
            else
              bif (Bool.not r7) then
                bif (r3.2 == (1 : Int)) then
                  bif (r4.2.2 == (1 : Int)) then
                    bif (r5.2 == (1 : Int)) then
                      bif (r6.2 == (1 : Int)) then
                        ((F_plaitlaw04_empty r3.1)).bind fun r11 =>
                        bif r11 then
                          ((F_plaitlaw04_empty r4.1)).bind fun r12 =>
                          bif r12 then
                            ((F_plaitlaw04_empty r6.1)).bind fun r13 =>
                            bif r13 then
                              bif (r4.2.1 == (0 : Int)) then
                                some ((((List.length r5.1) : Nat) : Int) == (0 : Int))
                              else
                                some false
                            else
                              some false
                          else
                            some false
                        else
                          some false
                      else
                        some false
                    else
                      some false
                  else
                    some false
                else
                  some false
              else
                ((F_plaitref04_Items r1)).bind fun r11 =>
                bif (r5.2 != (0 : Int)) then
                  some false
                else
                  ((F_plaitref01_Rows (r5.1, r11))).bind fun r12 =>
                  bif (Bool.not r12) then
                    some false
                  else
                    bif ((((List.length r11) : Nat) : Int) == r1.1) then
                      bif (r3.2 != (5 : Int)) then
                        some false
                      else
                        ((F_plaitlaw04_empty r3.1)).bind fun r13 =>
                        bif (Bool.not r13) then
                          some false
                        else
                          bif ((((List.length r11) : Nat) : Int) == (0 : Int)) then
                            bif (r4.2.2 != (4 : Int)) then
                              some false
                            else
                              bif (r4.2.1 != (0 : Int)) then
                                some false
                              else
                                ((F_plaitlaw04_empty r4.1)).bind fun r14 =>
                                bif (Bool.not r14) then
                                  some false
                                else
                                  bif (decide (x.2.1 < (((List.length r11) : Nat) : Int))) then
                                    bif (r6.2 == (2 : Int)) then
                                      ((F_plaitlaw04_empty r6.1)).bind fun r15 =>
                                      some r15
                                    else
                                      some false
                                  else
                                    bif (decide (x.2.1 > (8 : Int))) then
                                      bif (r6.2 == (2 : Int)) then
                                        ((F_plaitlaw04_empty r6.1)).bind fun r15 =>
                                        some r15
                                      else
                                        some false
                                    else
                                      bif (r6.2 == (0 : Int)) then
                                        ((F_plaitref04_Is (r6.1, (x.2.1, r11)))).bind fun r15 =>
                                        some r15
                                      else
                                        some false
                          else
                            bif (r4.2.2 != (0 : Int)) then
                              some false
                            else
                              bif (Go.Proofs.Ytegbkaaibgdheaa.VX.inb (0 : Int) (List.length r11)) then
                                bif (r4.2.1 != (Go.Proofs.Ytegbkaaibgdheaa.VX.getAt (0 : Int) r11 (Go.Proofs.Ytegbkaaibgdheaa.VX.toN (0 : Int)))) then
                                  some false
                                else
                                  bif (Go.Proofs.Ytegbkaaibgdheaa.VX.sub3 (1 : Int) (((List.length r11) : Nat) : Int) (List.length r11)) then
                                    ((F_plaitref04_Is (r4.1, (r1.1, (Go.Proofs.Ytegbkaaibgdheaa.VX.cut r11 (Go.Proofs.Ytegbkaaibgdheaa.VX.toN (1 : Int)) ((Go.Proofs.Ytegbkaaibgdheaa.VX.toN (((List.length r11) : Nat) : Int)) - (Go.Proofs.Ytegbkaaibgdheaa.VX.toN (1 : Int)))))))).bind fun r14 =>
                                    bif (Bool.not r14) then
                                      some false
                                    else
                                      bif (decide (x.2.1 < (((List.length r11) : Nat) : Int))) then
                                        bif (r6.2 == (2 : Int)) then
                                          ((F_plaitlaw04_empty r6.1)).bind fun r15 =>
                                          some r15
                                        else
                                          some false
                                      else
                                        bif (decide (x.2.1 > (8 : Int))) then
                                          bif (r6.2 == (2 : Int)) then
                                            ((F_plaitlaw04_empty r6.1)).bind fun r15 =>
                                            some r15
                                          else
                                            some false
                                        else
                                          bif (r6.2 == (0 : Int)) then
                                            ((F_plaitref04_Is (r6.1, (x.2.1, r11)))).bind fun r15 =>
                                            some r15
                                          else
                                            some false
                                  else
                                    none
                              else
                                none
                    else
                      bif (r3.2 != (0 : Int)) then
                        some false
                      else
                        bif (Go.Proofs.Ytegbkaaibgdheaa.VX.fits ((List.length ([] : List Int)) + (List.length r11))) then
                          bif (Go.Proofs.Ytegbkaaibgdheaa.VX.fits ((List.length (([] : List Int) ++ r11)) + (List.length (x.2.2 :: ([] : List Int))))) then
                            ((F_plaitref04_Is (r3.1, (r1.1, ((([] : List Int) ++ r11) ++ (x.2.2 :: ([] : List Int))))))).bind fun r13 =>
                            bif (Bool.not r13) then
                              some false
                            else
                              bif ((((List.length r11) : Nat) : Int) == (0 : Int)) then
                                bif (r4.2.2 != (4 : Int)) then
                                  some false
                                else
                                  bif (r4.2.1 != (0 : Int)) then
                                    some false
                                  else
                                    ((F_plaitlaw04_empty r4.1)).bind fun r14 =>
                                    bif (Bool.not r14) then
                                      some false
                                    else
                                      bif (decide (x.2.1 < (((List.length r11) : Nat) : Int))) then
                                        bif (r6.2 == (2 : Int)) then
                                          ((F_plaitlaw04_empty r6.1)).bind fun r15 =>
                                          some r15
                                        else
                                          some false
                                      else
                                        bif (decide (x.2.1 > (8 : Int))) then
                                          bif (r6.2 == (2 : Int)) then
                                            ((F_plaitlaw04_empty r6.1)).bind fun r15 =>
                                            some r15
                                          else
                                            some false
                                        else
                                          bif (r6.2 == (0 : Int)) then
                                            ((F_plaitref04_Is (r6.1, (x.2.1, r11)))).bind fun r15 =>
                                            some r15
                                          else
                                            some false
                              else
                                bif (r4.2.2 != (0 : Int)) then
                                  some false
                                else
                                  bif (Go.Proofs.Ytegbkaaibgdheaa.VX.inb (0 : Int) (List.length r11)) then
                                    bif (r4.2.1 != (Go.Proofs.Ytegbkaaibgdheaa.VX.getAt (0 : Int) r11 (Go.Proofs.Ytegbkaaibgdheaa.VX.toN (0 : Int)))) then
                                      some false
                                    else
                                      bif (Go.Proofs.Ytegbkaaibgdheaa.VX.sub3 (1 : Int) (((List.length r11) : Nat) : Int) (List.length r11)) then
                                        ((F_plaitref04_Is (r4.1, (r1.1, (Go.Proofs.Ytegbkaaibgdheaa.VX.cut r11 (Go.Proofs.Ytegbkaaibgdheaa.VX.toN (1 : Int)) ((Go.Proofs.Ytegbkaaibgdheaa.VX.toN (((List.length r11) : Nat) : Int)) - (Go.Proofs.Ytegbkaaibgdheaa.VX.toN (1 : Int)))))))).bind fun r14 =>
                                        bif (Bool.not r14) then
                                          some false
                                        else
                                          bif (decide (x.2.1 < (((List.length r11) : Nat) : Int))) then
                                            bif (r6.2 == (2 : Int)) then
                                              ((F_plaitlaw04_empty r6.1)).bind fun r15 =>
                                              some r15
                                            else
                                              some false
                                          else
                                            bif (decide (x.2.1 > (8 : Int))) then
                                              bif (r6.2 == (2 : Int)) then
                                                ((F_plaitlaw04_empty r6.1)).bind fun r15 =>
                                                some r15
                                              else
                                                some false
                                            else
                                              bif (r6.2 == (0 : Int)) then
                                                ((F_plaitref04_Is (r6.1, (x.2.1, r11)))).bind fun r15 =>
                                                some r15
                                              else
                                                some false
                                      else
                                        none
                                  else
                                    none
                          else
                            none
                        else
                          none
noncomputable def cx_plaitlaw04_RingTells : Ctx := { tb := mkTb T2.tbl, fx := [(20, [], Spec.shp si_plaitlaw04_few so_plaitlaw04_few F_plaitlaw04_few), (13, [], Spec.shp si_ring_New so_ring_New F_ring_New), (14, [], Spec.shp si_ring_Push so_ring_Push F_ring_Push), (15, [], Spec.shp si_ring_Pop so_ring_Pop F_ring_Pop), (16, [], Spec.shp si_ring_Items so_ring_Items F_ring_Items), (21, [], Spec.shp si_ring_Grow so_ring_Grow F_ring_Grow), (30, [], Spec.shp si_plaitref04_Right so_plaitref04_Right F_plaitref04_Right), (18, [], Spec.shp si_ring_Right so_ring_Right F_ring_Right), (19, [], Spec.shp si_plaitlaw04_alive so_plaitlaw04_alive F_plaitlaw04_alive), (22, [], Spec.shp si_plaitlaw04_empty so_plaitlaw04_empty F_plaitlaw04_empty), (32, [], Spec.shp si_plaitref04_Items so_plaitref04_Items F_plaitref04_Items), (17, [], Spec.shp si_plaitref01_Rows so_plaitref01_Rows F_plaitref01_Rows), (31, [], Spec.shp si_plaitref04_Is so_plaitref04_Is F_plaitref04_Is), (31, [2000000], Spec.shp si_plaitref04_Is so_plaitref04_Is F_plaitref04_Is)], sum := [], nt := 209, pin := 0, nr := true, ys := [] }
theorem F_plaitlaw04_RingTells_ok : Sound Try.prog 6 (Spec.pure [(.pair (.int .i64) (.pair (.int .i64) (.pair (.slice (.int .i64)) (.int .i64)))), (.int .i64), (.int .i64)] [.bool] F_plaitlaw04_RingTells) :=
  Sound.pure (C := cx_plaitlaw04_RingTells) (fn := Try.f6) (by kernel_rfl) (c := bodyOf Try.f6) (by kernel_rfl) (by decide) (ctxOK mixed tbl_ok rfl ⟨F_plaitlaw04_few_ok, F_ring_New_ok, F_ring_Push_ok, F_ring_Pop_ok, F_ring_Items_ok, F_ring_Grow_ok, F_plaitref04_Right_ok, F_ring_Right_ok, F_plaitlaw04_alive_ok, F_plaitlaw04_empty_ok, F_plaitref04_Items_ok, F_plaitref01_Rows_ok, F_plaitref04_Is_ok, F_plaitref04_Is_ok, trivial⟩) (SumOK.of trivial) (by kernel_rfl) rfl _ _ (by decide) _ (fun x => by kernel_rfl)
abbrev si_plaitlaw05_few : Shape := { sl := [(0, (.hole (.slice (.pair (.int .i64) (.pair (.int .i64) (.int .i64))))))], bl := [], ts := [(.slice (.pair (.int .i64) (.pair (.int .i64) (.int .i64))))], pin := 0 }
abbrev so_plaitlaw05_few : Shape := { sl := [(0, (.hole (.slice (.pair (.int .i64) (.pair (.int .i64) (.int .i64))))))], bl := [], ts := [(.slice (.pair (.int .i64) (.pair (.int .i64) (.int .i64))))], pin := 0 }
noncomputable def F_plaitlaw05_few (x : (List ((Int × (Int × Int))))) : Option (List ((Int × (Int × Int)))) :=
  bif (Go.Proofs.Ytegbkaaibgdheaa.VX.sub3 (0 : Int) (Min.min (((List.length x) : Nat) : Int) (70 : Int)) (List.length x)) then
    some (Go.Proofs.Ytegbkaaibgdheaa.VX.cut x (Go.Proofs.Ytegbkaaibgdheaa.VX.toN (0 : Int)) ((Go.Proofs.Ytegbkaaibgdheaa.VX.toN (Min.min (((List.length x) : Nat) : Int) (70 : Int))) - (Go.Proofs.Ytegbkaaibgdheaa.VX.toN (0 : Int))))
  else
    none
noncomputable def cx_plaitlaw05_few : Ctx := { tb := mkTb T2.tbl, fx := [], sum := [], nt := 8, pin := 0, nr := true, ys := [] }
theorem F_plaitlaw05_few_ok : Sound Try.prog 33 (Spec.shp si_plaitlaw05_few so_plaitlaw05_few F_plaitlaw05_few) :=
  Sound.shp (C := cx_plaitlaw05_few) (fn := Try.f33) (by kernel_rfl) (c := bodyOf Try.f33) (by kernel_rfl) (by decide) (ctxOK mixed tbl_ok rfl trivial trivial) (SumOK.of trivial) (by kernel_rfl) si_plaitlaw05_few so_plaitlaw05_few rfl (by decide) (by decide) rfl (by decide) rfl F_plaitlaw05_few (fun x => by kernel_rfl)
abbrev si_waits_isWait : Shape := { sl := [(0, (.hole (.pair (.int .i64) (.pair (.int .i64) (.int .i64)))))], bl := [], ts := [(.pair (.int .i64) (.pair (.int .i64) (.int .i64)))], pin := 0 }
abbrev so_waits_isWait : Shape := { sl := [(0, (.hole .bool))], bl := [], ts := [.bool], pin := 0 }
noncomputable def F_waits_isWait (x : ((Int × (Int × Int)))) : Option (Bool) :=
  bif (decide (x.1 ≥ (0 : Int))) then
    bif (decide (x.2.1 ≥ (0 : Int))) then
      some (decide (x.2.2 ≥ (0 : Int)))
    else
      some false
  else
    some false
noncomputable def cx_waits_isWait : Ctx := { tb := mkTb T2.tbl, fx := [], sum := [], nt := 16, pin := 0, nr := true, ys := [] }
theorem F_waits_isWait_ok : Sound Try.prog 65 (Spec.shp si_waits_isWait so_waits_isWait F_waits_isWait) :=
  Sound.shp (C := cx_waits_isWait) (fn := Try.f65) (by kernel_rfl) (c := bodyOf Try.f65) (by kernel_rfl) (by decide) (ctxOK mixed tbl_ok rfl trivial trivial) (SumOK.of trivial) (by kernel_rfl) si_waits_isWait so_waits_isWait rfl (by decide) (by decide) rfl (by decide) rfl F_waits_isWait (fun x => by kernel_rfl)
abbrev si_waits_Right_1 : Shape := { sl := [(0, (.hole (.pair (.int .i64) (.pair (.int .i64) (.int .i64)))))], bl := [], ts := [(.pair (.int .i64) (.pair (.int .i64) (.int .i64)))], pin := 0 }
abbrev so_waits_Right_1 : Shape := { sl := [(0, (.hole .bool))], bl := [], ts := [.bool], pin := 0 }
noncomputable def F_waits_Right_1 (x : ((Int × (Int × Int)))) : Option (Bool) :=
  ((F_waits_isWait x)).bind fun r8 =>
  some (Bool.not r8)
noncomputable def cx_waits_Right_1 : Ctx := { tb := mkTb T2.tbl, fx := [(65, [], Spec.shp si_waits_isWait so_waits_isWait F_waits_isWait)], sum := [], nt := 6, pin := 0, nr := true, ys := [] }
theorem F_waits_Right_1_ok : Sound Try.prog 71 (Spec.shp si_waits_Right_1 so_waits_Right_1 F_waits_Right_1) :=
  Sound.shp (C := cx_waits_Right_1) (fn := Try.f71) (by kernel_rfl) (c := bodyOf Try.f71) (by kernel_rfl) (by decide) (ctxOK mixed tbl_ok rfl ⟨F_waits_isWait_ok, trivial⟩ trivial) (SumOK.of trivial) (by kernel_rfl) si_waits_Right_1 so_waits_Right_1 rfl (by decide) (by decide) rfl (by decide) rfl F_waits_Right_1 (fun x => by kernel_rfl)
abbrev sh_slices_IndexFunc_api_Wait__waits_Right_1_3 : Shape := { sl := [(0, (.hole (.slice (.pair (.int .i64) (.pair (.int .i64) (.int .i64)))))), (1, (.fn 71 .nil .nil)), (7, (.hole (.int .i64))), (8, (.hole (.int .i64)))], bl := [], ts := [(.slice (.pair (.int .i64) (.pair (.int .i64) (.int .i64)))), (.int .i64), (.int .i64)], pin := 0 }
abbrev es_slices_IndexFunc_api_Wait__waits_Right_1_3 : List (ETag × Shape) := [(.ret, { sl := [(4, (.hole (.int .i64)))], bl := [], ts := [(.int .i64)], pin := 0 }), (.exit 0, { sl := [], bl := [], ts := [], pin := 0 })]
noncomputable def L_slices_IndexFunc_api_Wait__waits_Right_1_3 (x : (List ((Int × (Int × Int))) × Int × Int)) : Option ((List ((Int × (Int × Int))) × Int × Int) ⊕ ((Int) ⊕ Unit)) :=
  bif (decide (x.2.2 < x.2.1)) then
    bif (Go.Proofs.Ytegbkaaibgdheaa.VX.inb x.2.2 (List.length x.1)) then
      ((F_waits_Right_1 (Go.Proofs.Ytegbkaaibgdheaa.VX.getAt ((0 : Int), ((0 : Int), (0 : Int))) x.1 (Go.Proofs.Ytegbkaaibgdheaa.VX.toN x.2.2)))).bind fun r7 =>
      bif r7 then
        some (.inr (.inl x.2.2))
      else
        some (.inl (x.1, (x.2.1, (Go.IntKind.wrap Go.IntKind.i64 (x.2.2 + (1 : Int))))))
    else
      none
  else
    some (.inr (.inr ()))
noncomputable def cx_slices_IndexFunc_api_Wait__waits_Right_1_3 : Ctx := { tb := mkTb T2.tbl, fx := [(71, [], Spec.shp si_waits_Right_1 so_waits_Right_1 F_waits_Right_1)], sum := [], nt := 19, pin := 0, nr := true, ys := [] }
theorem L_slices_IndexFunc_api_Wait__waits_Right_1_3_ok : CSound Try.prog ⟨19, 0, true⟩ (.loop (loopOf 3 Try.f67)) (pieceSpec sh_slices_IndexFunc_api_Wait__waits_Right_1_3 es_slices_IndexFunc_api_Wait__waits_Right_1_3 (loop L_slices_IndexFunc_api_Wait__waits_Right_1_3)) :=
  loop_sound (C := cx_slices_IndexFunc_api_Wait__waits_Right_1_3) (ctxOK mixed tbl_ok rfl ⟨F_waits_Right_1_ok, trivial⟩ trivial) (SumOK.of trivial) sh_slices_IndexFunc_api_Wait__waits_Right_1_3 es_slices_IndexFunc_api_Wait__waits_Right_1_3 rfl rfl L_slices_IndexFunc_api_Wait__waits_Right_1_3 (fun x => by kernel_rfl)
abbrev si_slices_IndexFunc_api_Wait__waits_Right_1 : Shape := { sl := [(0, (.hole (.slice (.pair (.int .i64) (.pair (.int .i64) (.int .i64)))))), (1, (.fn 71 .nil .nil))], bl := [], ts := [(.slice (.pair (.int .i64) (.pair (.int .i64) (.int .i64))))], pin := 0 }
abbrev so_slices_IndexFunc_api_Wait__waits_Right_1 : Shape := { sl := [(0, (.hole (.int .i64)))], bl := [], ts := [(.int .i64)], pin := 0 }
noncomputable def F_slices_IndexFunc_api_Wait__waits_Right_1 (x : (List ((Int × (Int × Int))))) : Option (Int) :=
  ((loop L_slices_IndexFunc_api_Wait__waits_Right_1_3 (x, ((((List.length x) : Nat) : Int), (0 : Int))))).bind fun r6 =>
  match r6 with
  | .inl y7 =>
    some y7
  | .inr y7 =>
    some (Int.negSucc 0)
noncomputable def cx_slices_IndexFunc_api_Wait__waits_Right_1 : Ctx := { tb := mkTb T2.tbl, fx := [(71, [], Spec.shp si_waits_Right_1 so_waits_Right_1 F_waits_Right_1)], sum := [(0, 3, pieceSpec sh_slices_IndexFunc_api_Wait__waits_Right_1_3 es_slices_IndexFunc_api_Wait__waits_Right_1_3 (loop L_slices_IndexFunc_api_Wait__waits_Right_1_3))], nt := 19, pin := 0, nr := true, ys := [] }
theorem F_slices_IndexFunc_api_Wait__waits_Right_1_ok : Sound Try.prog 67 (Spec.shp si_slices_IndexFunc_api_Wait__waits_Right_1 so_slices_IndexFunc_api_Wait__waits_Right_1 F_slices_IndexFunc_api_Wait__waits_Right_1) :=
  Sound.shp (C := cx_slices_IndexFunc_api_Wait__waits_Right_1) (fn := Try.f67) (by kernel_rfl) (c := bodyOf Try.f67) (by kernel_rfl) (by decide) (ctxOK mixed tbl_ok rfl ⟨F_waits_Right_1_ok, trivial⟩ trivial) (SumOK.of ⟨(pieces_one (d := .loop (loopOf 3 Try.f67)) (by kernel_rfl) L_slices_IndexFunc_api_Wait__waits_Right_1_3_ok), trivial⟩) (by kernel_rfl) si_slices_IndexFunc_api_Wait__waits_Right_1 so_slices_IndexFunc_api_Wait__waits_Right_1 rfl (by decide) (by decide) rfl (by decide) rfl F_slices_IndexFunc_api_Wait__waits_Right_1 (fun x => by kernel_rfl)
abbrev si_slices_ContainsFunc_api_Wait__waits_Right_1 : Shape := { sl := [(0, (.hole (.slice (.pair (.int .i64) (.pair (.int .i64) (.int .i64)))))), (1, (.fn 71 .nil .nil))], bl := [], ts := [(.slice (.pair (.int .i64) (.pair (.int .i64) (.int .i64))))], pin := 0 }
abbrev so_slices_ContainsFunc_api_Wait__waits_Right_1 : Shape := { sl := [(0, (.hole .bool))], bl := [], ts := [.bool], pin := 0 }
noncomputable def F_slices_ContainsFunc_api_Wait__waits_Right_1 (x : (List ((Int × (Int × Int))))) : Option (Bool) :=
  ((F_slices_IndexFunc_api_Wait__waits_Right_1 x)).bind fun r5 =>
  some (decide (r5 ≥ (0 : Int)))
noncomputable def cx_slices_ContainsFunc_api_Wait__waits_Right_1 : Ctx := { tb := mkTb T2.tbl, fx := [(67, [71], Spec.shp si_slices_IndexFunc_api_Wait__waits_Right_1 so_slices_IndexFunc_api_Wait__waits_Right_1 F_slices_IndexFunc_api_Wait__waits_Right_1)], sum := [], nt := 9, pin := 0, nr := true, ys := [] }
theorem F_slices_ContainsFunc_api_Wait__waits_Right_1_ok : Sound Try.prog 70 (Spec.shp si_slices_ContainsFunc_api_Wait__waits_Right_1 so_slices_ContainsFunc_api_Wait__waits_Right_1 F_slices_ContainsFunc_api_Wait__waits_Right_1) :=
  Sound.shp (C := cx_slices_ContainsFunc_api_Wait__waits_Right_1) (fn := Try.f70) (by kernel_rfl) (c := bodyOf Try.f70) (by kernel_rfl) (by decide) (ctxOK mixed tbl_ok rfl ⟨F_slices_IndexFunc_api_Wait__waits_Right_1_ok, trivial⟩ trivial) (SumOK.of trivial) (by kernel_rfl) si_slices_ContainsFunc_api_Wait__waits_Right_1 so_slices_ContainsFunc_api_Wait__waits_Right_1 rfl (by decide) (by decide) rfl (by decide) rfl F_slices_ContainsFunc_api_Wait__waits_Right_1 (fun x => by kernel_rfl)
abbrev sh_waits_met_4 : Shape := { sl := [(3, (.mp 0)), (7, (.hole (.slice (.pair (.int .i64) (.pair (.int .i64) (.int .i64)))))), (8, (.hole (.int .i64))), (9, (.hole (.int .i64)))], bl := [.mp (.pair (.int .i64) (.int .i64)) (.int .i64)], ts := [(.slice (.pair (.int .i64) (.pair (.int .i64) (.int .i64)))), (.int .i64), (.int .i64), (.slice (.pair (.pair (.int .i64) (.int .i64)) (.int .i64)))], pin := 0 }
abbrev es_waits_met_4 : List (ETag × Shape) := [(.exit 0, { sl := [(3, (.mp 0))], bl := [.mp (.pair (.int .i64) (.int .i64)) (.int .i64)], ts := [(.slice (.pair (.pair (.int .i64) (.int .i64)) (.int .i64)))], pin := 0 })]
noncomputable def L_waits_met_4 (x : (List ((Int × (Int × Int))) × Int × Int × List (((Int × Int) × Int)))) : Option ((List ((Int × (Int × Int))) × Int × Int × List (((Int × Int) × Int))) ⊕ ((List (((Int × Int) × Int))))) :=
  bif (decide (x.2.2.1 < x.2.1)) then
    bif (Go.Proofs.Ytegbkaaibgdheaa.VX.inb x.2.2.1 (List.length x.1)) then
      bif (Go.Proofs.Ytegbkaaibgdheaa.VX.inb (Go.Proofs.Ytegbkaaibgdheaa.VX.natI (@Go.Proofs.Ytegbkaaibgdheaa.VX.mpos ((Int × Int)) (Int) (Go.Proofs.Ytegbkaaibgdheaa.VX.Ty.beq (.pair (.int .i64) (.int .i64))) ((Go.Proofs.Ytegbkaaibgdheaa.VX.getAt ((0 : Int), ((0 : Int), (0 : Int))) x.1 (Go.Proofs.Ytegbkaaibgdheaa.VX.toN x.2.2.1)).1, (Go.Proofs.Ytegbkaaibgdheaa.VX.getAt ((0 : Int), ((0 : Int), (0 : Int))) x.1 (Go.Proofs.Ytegbkaaibgdheaa.VX.toN x.2.2.1)).2.1) x.2.2.2)) (List.length (@Go.Proofs.Ytegbkaaibgdheaa.VX.mput ((Int × Int)) (Int) (Go.Proofs.Ytegbkaaibgdheaa.VX.Ty.beq (.pair (.int .i64) (.int .i64))) ((Go.Proofs.Ytegbkaaibgdheaa.VX.getAt ((0 : Int), ((0 : Int), (0 : Int))) x.1 (Go.Proofs.Ytegbkaaibgdheaa.VX.toN x.2.2.1)).1, (Go.Proofs.Ytegbkaaibgdheaa.VX.getAt ((0 : Int), ((0 : Int), (0 : Int))) x.1 (Go.Proofs.Ytegbkaaibgdheaa.VX.toN x.2.2.1)).2.1) (@Go.Proofs.Ytegbkaaibgdheaa.VX.mlook ((Int × Int)) (Int) (Go.Proofs.Ytegbkaaibgdheaa.VX.Ty.beq (.pair (.int .i64) (.int .i64))) (Go.Proofs.Ytegbkaaibgdheaa.VX.Ty.zero (.int .i64)) ((Go.Proofs.Ytegbkaaibgdheaa.VX.getAt ((0 : Int), ((0 : Int), (0 : Int))) x.1 (Go.Proofs.Ytegbkaaibgdheaa.VX.toN x.2.2.1)).1, (Go.Proofs.Ytegbkaaibgdheaa.VX.getAt ((0 : Int), ((0 : Int), (0 : Int))) x.1 (Go.Proofs.Ytegbkaaibgdheaa.VX.toN x.2.2.1)).2.1) x.2.2.2) x.2.2.2))) then
        some (.inl (x.1, (x.2.1, ((Go.IntKind.wrap Go.IntKind.i64 (x.2.2.1 + (1 : Int))), (Go.Proofs.Ytegbkaaibgdheaa.VX.mset (@Go.Proofs.Ytegbkaaibgdheaa.VX.mput ((Int × Int)) (Int) (Go.Proofs.Ytegbkaaibgdheaa.VX.Ty.beq (.pair (.int .i64) (.int .i64))) ((Go.Proofs.Ytegbkaaibgdheaa.VX.getAt ((0 : Int), ((0 : Int), (0 : Int))) x.1 (Go.Proofs.Ytegbkaaibgdheaa.VX.toN x.2.2.1)).1, (Go.Proofs.Ytegbkaaibgdheaa.VX.getAt ((0 : Int), ((0 : Int), (0 : Int))) x.1 (Go.Proofs.Ytegbkaaibgdheaa.VX.toN x.2.2.1)).2.1) (@Go.Proofs.Ytegbkaaibgdheaa.VX.mlook ((Int × Int)) (Int) (Go.Proofs.Ytegbkaaibgdheaa.VX.Ty.beq (.pair (.int .i64) (.int .i64))) (Go.Proofs.Ytegbkaaibgdheaa.VX.Ty.zero (.int .i64)) ((Go.Proofs.Ytegbkaaibgdheaa.VX.getAt ((0 : Int), ((0 : Int), (0 : Int))) x.1 (Go.Proofs.Ytegbkaaibgdheaa.VX.toN x.2.2.1)).1, (Go.Proofs.Ytegbkaaibgdheaa.VX.getAt ((0 : Int), ((0 : Int), (0 : Int))) x.1 (Go.Proofs.Ytegbkaaibgdheaa.VX.toN x.2.2.1)).2.1) x.2.2.2) x.2.2.2) (Go.Proofs.Ytegbkaaibgdheaa.VX.toN (Go.Proofs.Ytegbkaaibgdheaa.VX.natI (@Go.Proofs.Ytegbkaaibgdheaa.VX.mpos ((Int × Int)) (Int) (Go.Proofs.Ytegbkaaibgdheaa.VX.Ty.beq (.pair (.int .i64) (.int .i64))) ((Go.Proofs.Ytegbkaaibgdheaa.VX.getAt ((0 : Int), ((0 : Int), (0 : Int))) x.1 (Go.Proofs.Ytegbkaaibgdheaa.VX.toN x.2.2.1)).1, (Go.Proofs.Ytegbkaaibgdheaa.VX.getAt ((0 : Int), ((0 : Int), (0 : Int))) x.1 (Go.Proofs.Ytegbkaaibgdheaa.VX.toN x.2.2.1)).2.1) x.2.2.2))) (Go.IntKind.wrap Go.IntKind.i64 ((@Go.Proofs.Ytegbkaaibgdheaa.VX.mlook ((Int × Int)) (Int) (Go.Proofs.Ytegbkaaibgdheaa.VX.Ty.beq (.pair (.int .i64) (.int .i64))) (Go.Proofs.Ytegbkaaibgdheaa.VX.Ty.zero (.int .i64)) ((Go.Proofs.Ytegbkaaibgdheaa.VX.getAt ((0 : Int), ((0 : Int), (0 : Int))) x.1 (Go.Proofs.Ytegbkaaibgdheaa.VX.toN x.2.2.1)).1, (Go.Proofs.Ytegbkaaibgdheaa.VX.getAt ((0 : Int), ((0 : Int), (0 : Int))) x.1 (Go.Proofs.Ytegbkaaibgdheaa.VX.toN x.2.2.1)).2.1) x.2.2.2) + (1 : Int))))))))
      else
        none
    else
      none
  else
    some (.inr x.2.2.2)
noncomputable def cx_waits_met_4 : Ctx := { tb := mkTb T2.tbl, fx := [], sum := [], nt := 25, pin := 0, nr := true, ys := [] }
theorem L_waits_met_4_ok : CSound Try.prog ⟨25, 0, true⟩ (.loop (loopOf 4 Try.f66)) (pieceSpec sh_waits_met_4 es_waits_met_4 (loop L_waits_met_4)) :=
  loop_sound (C := cx_waits_met_4) (ctxOK mixed tbl_ok rfl trivial trivial) (SumOK.of trivial) sh_waits_met_4 es_waits_met_4 rfl rfl L_waits_met_4 (fun x => by kernel_rfl)
abbrev si_waits_met : Shape := { sl := [(0, (.hole (.slice (.pair (.int .i64) (.pair (.int .i64) (.int .i64))))))], bl := [], ts := [(.slice (.pair (.int .i64) (.pair (.int .i64) (.int .i64))))], pin := 0 }
abbrev so_waits_met : Shape := { sl := [(0, (.mp 0))], bl := [.mp (.pair (.int .i64) (.int .i64)) (.int .i64)], ts := [(.slice (.pair (.pair (.int .i64) (.int .i64)) (.int .i64)))], pin := 0 }
noncomputable def F_waits_met (x : (List ((Int × (Int × Int))))) : Option (List (((Int × Int) × Int))) :=
  ((loop L_waits_met_4 (x, ((((List.length x) : Nat) : Int), ((0 : Int), ([] : List ((Int × Int) × Int))))))).bind fun r6 =>
  some r6
noncomputable def cx_waits_met : Ctx := { tb := mkTb T2.tbl, fx := [], sum := [(0, 4, pieceSpec sh_waits_met_4 es_waits_met_4 (loop L_waits_met_4))], nt := 25, pin := 0, nr := true, ys := [] }
theorem F_waits_met_ok : Sound Try.prog 66 (Spec.shp si_waits_met so_waits_met F_waits_met) :=
  Sound.shp (C := cx_waits_met) (fn := Try.f66) (by kernel_rfl) (c := bodyOf Try.f66) (by kernel_rfl) (by decide) (ctxOK mixed tbl_ok rfl trivial trivial) (SumOK.of ⟨(pieces_one (d := .loop (loopOf 4 Try.f66)) (by kernel_rfl) L_waits_met_4_ok), trivial⟩) (by kernel_rfl) si_waits_met so_waits_met rfl (by decide) (by decide) rfl (by decide) rfl F_waits_met (fun x => by kernel_rfl)
abbrev si_waits_Right : Shape := { sl := [(0, (.hole (.slice (.pair (.int .i64) (.pair (.int .i64) (.int .i64))))))], bl := [], ts := [(.slice (.pair (.int .i64) (.pair (.int .i64) (.int .i64))))], pin := 0 }
abbrev so_waits_Right : Shape := { sl := [(0, (.hole .bool))], bl := [], ts := [.bool], pin := 0 }
noncomputable def F_waits_Right (x : (List ((Int × (Int × Int))))) : Option (Bool) :=
  ((F_slices_ContainsFunc_api_Wait__waits_Right_1 x)).bind fun r4 =>
  bif r4 then
    some false
  else
    bif (decide ((((List.length x) : Nat) : Int) ≤ (64 : Int))) then
      ((F_waits_met x)).bind fun r5 =>
      some ((((List.length r5) : Nat) : Int) == (((List.length x) : Nat) : Int))
    else
      some false
noncomputable def cx_waits_Right : Ctx := { tb := mkTb T2.tbl, fx := [(70, [71], Spec.shp si_slices_ContainsFunc_api_Wait__waits_Right_1 so_slices_ContainsFunc_api_Wait__waits_Right_1 F_slices_ContainsFunc_api_Wait__waits_Right_1), (66, [], Spec.shp si_waits_met so_waits_met F_waits_met)], sum := [], nt := 16, pin := 0, nr := true, ys := [] }
theorem F_waits_Right_ok : Sound Try.prog 47 (Spec.shp si_waits_Right so_waits_Right F_waits_Right) :=
  Sound.shp (C := cx_waits_Right) (fn := Try.f47) (by kernel_rfl) (c := bodyOf Try.f47) (by kernel_rfl) (by decide) (ctxOK mixed tbl_ok rfl ⟨F_slices_ContainsFunc_api_Wait__waits_Right_1_ok, F_waits_met_ok, trivial⟩ trivial) (SumOK.of trivial) (by kernel_rfl) si_waits_Right so_waits_Right rfl (by decide) (by decide) rfl (by decide) rfl F_waits_Right (fun x => by kernel_rfl)
abbrev si_slices_Clone_api_Wait : Shape := { sl := [(0, (.hole (.slice (.pair (.int .i64) (.pair (.int .i64) (.int .i64))))))], bl := [], ts := [(.slice (.pair (.int .i64) (.pair (.int .i64) (.int .i64))))], pin := 0 }
abbrev so_slices_Clone_api_Wait : Shape := { sl := [(0, (.sl 0))], bl := [.row (.pair (.int .i64) (.pair (.int .i64) (.int .i64)))], ts := [(.slice (.pair (.int .i64) (.pair (.int .i64) (.int .i64))))], pin := 0 }
noncomputable def F_slices_Clone_api_Wait (x : (List ((Int × (Int × Int))))) : Option (List ((Int × (Int × Int)))) :=
  bif (@Nat.beq (List.length x) (0 : Nat)) then
    amb (
      some ([] : List (Int × (Int × Int)))) (
      bif (Go.Proofs.Ytegbkaaibgdheaa.VX.fits ((List.length ([] : List (Int × (Int × Int)))) + (List.length x))) then
        some (([] : List (Int × (Int × Int))) ++ x)
      else
        none)
  else
    bif (Go.Proofs.Ytegbkaaibgdheaa.VX.fits ((List.length ([] : List (Int × (Int × Int)))) + (List.length x))) then
      some (([] : List (Int × (Int × Int))) ++ x)
    else
      none
noncomputable def cx_slices_Clone_api_Wait : Ctx := { tb := mkTb T2.tbl, fx := [], sum := [], nt := 8, pin := 0, nr := true, ys := [] }
theorem F_slices_Clone_api_Wait_ok : Sound Try.prog 63 (Spec.shp si_slices_Clone_api_Wait so_slices_Clone_api_Wait F_slices_Clone_api_Wait) :=
  Sound.shp (C := cx_slices_Clone_api_Wait) (fn := Try.f63) (by kernel_rfl) (c := bodyOf Try.f63) (by kernel_rfl) (by decide) (ctxOK mixed tbl_ok rfl trivial trivial) (SumOK.of trivial) (by kernel_rfl) si_slices_Clone_api_Wait so_slices_Clone_api_Wait rfl (by decide) (by decide) rfl (by decide) rfl F_slices_Clone_api_Wait (fun x => by kernel_rfl)
abbrev si_waits_Push : Shape := { sl := [(0, (.hole (.slice (.pair (.int .i64) (.pair (.int .i64) (.int .i64)))))), (1, (.hole (.pair (.int .i64) (.pair (.int .i64) (.int .i64)))))], bl := [], ts := [(.slice (.pair (.int .i64) (.pair (.int .i64) (.int .i64)))), (.pair (.int .i64) (.pair (.int .i64) (.int .i64)))], pin := 0 }
abbrev so_waits_Push : Shape := { sl := [(0, (.hole (.slice (.pair (.int .i64) (.pair (.int .i64) (.int .i64)))))), (1, (.hole (.int .i64)))], bl := [], ts := [(.slice (.pair (.int .i64) (.pair (.int .i64) (.int .i64)))), (.int .i64)], pin := 0 }
noncomputable def F_waits_Push (x : (List ((Int × (Int × Int))) × (Int × (Int × Int)))) : Option (List ((Int × (Int × Int))) × Int) :=
  ((F_waits_Right x.1)).bind fun r3 =>
  bif (Bool.not r3) then
    some (([] : List (Int × (Int × Int))), (1 : Int))
  else
    ((F_waits_isWait x.2)).bind fun r4 =>
    bif (Bool.not r4) then
      some (([] : List (Int × (Int × Int))), (1 : Int))
    else
      ((F_waits_met x.1)).bind fun r5 =>
      bif (decide ((@Go.Proofs.Ytegbkaaibgdheaa.VX.mlook ((Int × Int)) (Int) (Go.Proofs.Ytegbkaaibgdheaa.VX.Ty.beq (.pair (.int .i64) (.int .i64))) (Go.Proofs.Ytegbkaaibgdheaa.VX.Ty.zero (.int .i64)) (x.2.1, x.2.2.1) r5) > (0 : Int))) then
        some (([] : List (Int × (Int × Int))), (7 : Int))
      else
        bif ((((List.length x.1) : Nat) : Int) == (64 : Int)) then
          some (([] : List (Int × (Int × Int))), (5 : Int))
        else
          ((F_slices_Clone_api_Wait x.1)).bind fun r6 =>
          bif (Go.Proofs.Ytegbkaaibgdheaa.VX.fits ((List.length r6) + (List.length (x.2 :: ([] : List (Int × (Int × Int))))))) then
            some ((r6 ++ (x.2 :: ([] : List (Int × (Int × Int))))), (0 : Int))
          else
            none
noncomputable def cx_waits_Push : Ctx := { tb := mkTb T2.tbl, fx := [(47, [], Spec.shp si_waits_Right so_waits_Right F_waits_Right), (65, [], Spec.shp si_waits_isWait so_waits_isWait F_waits_isWait), (66, [], Spec.shp si_waits_met so_waits_met F_waits_met), (63, [], Spec.shp si_slices_Clone_api_Wait so_slices_Clone_api_Wait F_slices_Clone_api_Wait)], sum := [], nt := 34, pin := 0, nr := true, ys := [] }
theorem F_waits_Push_ok : Sound Try.prog 25 (Spec.shp si_waits_Push so_waits_Push F_waits_Push) :=
  Sound.shp (C := cx_waits_Push) (fn := Try.f25) (by kernel_rfl) (c := bodyOf Try.f25) (by kernel_rfl) (by decide) (ctxOK mixed tbl_ok rfl ⟨F_waits_Right_ok, F_waits_isWait_ok, F_waits_met_ok, F_slices_Clone_api_Wait_ok, trivial⟩ trivial) (SumOK.of trivial) (by kernel_rfl) si_waits_Push so_waits_Push rfl (by decide) (by decide) rfl (by decide) rfl F_waits_Push (fun x => by kernel_rfl)
abbrev si_waits_First_1 : Shape := { sl := [(0, (.hole (.pair (.int .i64) (.pair (.int .i64) (.int .i64))))), (1, (.ptr 0 []))], bl := [.var (.hole (.int .i64))], ts := [(.pair (.int .i64) (.pair (.int .i64) (.int .i64))), (.int .i64)], pin := 0 }
abbrev so_waits_First_1 : Shape := { sl := [(0, (.hole .bool))], bl := [.var (.hole (.int .i64))], ts := [.bool, (.int .i64)], pin := 1 }
noncomputable def F_waits_First_1 (x : ((Int × (Int × Int)) × Int)) : Option (Bool × Int) :=
  some ((x.1.1 != x.2), x.2)
noncomputable def cx_waits_First_1 : Ctx := { tb := mkTb T2.tbl, fx := [], sum := [], nt := 8, pin := 1, nr := true, ys := [] }
theorem F_waits_First_1_ok : Sound Try.prog 68 (Spec.shp si_waits_First_1 so_waits_First_1 F_waits_First_1) :=
  Sound.shp (C := cx_waits_First_1) (fn := Try.f68) (by kernel_rfl) (c := bodyOf Try.f68) (by kernel_rfl) (by decide) (ctxOK mixed tbl_ok rfl trivial trivial) (SumOK.of trivial) (by kernel_rfl) si_waits_First_1 so_waits_First_1 rfl (by decide) (by decide) rfl (by decide) rfl F_waits_First_1 (fun x => by kernel_rfl)
abbrev sh_slices_IndexFunc_api_Wait__waits_First_1_3 : Shape := { sl := [(0, (.hole (.slice (.pair (.int .i64) (.pair (.int .i64) (.int .i64)))))), (1, (.fn 68 .nil (.cons (.ptr 0 []) .nil))), (7, (.hole (.int .i64))), (8, (.hole (.int .i64)))], bl := [.var (.hole (.int .i64))], ts := [(.slice (.pair (.int .i64) (.pair (.int .i64) (.int .i64)))), (.int .i64), (.int .i64), (.int .i64)], pin := 1 }
abbrev es_slices_IndexFunc_api_Wait__waits_First_1_3 : List (ETag × Shape) := [(.ret, { sl := [(4, (.hole (.int .i64)))], bl := [.var (.hole (.int .i64))], ts := [(.int .i64), (.int .i64)], pin := 1 }), (.exit 0, { sl := [], bl := [.var (.hole (.int .i64))], ts := [(.int .i64)], pin := 1 })]
noncomputable def L_slices_IndexFunc_api_Wait__waits_First_1_3 (x : (List ((Int × (Int × Int))) × Int × Int × Int)) : Option ((List ((Int × (Int × Int))) × Int × Int × Int) ⊕ ((Int × Int) ⊕ (Int))) :=
  bif (decide (x.2.2.1 < x.2.1)) then
    bif (Go.Proofs.Ytegbkaaibgdheaa.VX.inb x.2.2.1 (List.length x.1)) then
      ((F_waits_First_1 ((Go.Proofs.Ytegbkaaibgdheaa.VX.getAt ((0 : Int), ((0 : Int), (0 : Int))) x.1 (Go.Proofs.Ytegbkaaibgdheaa.VX.toN x.2.2.1)), x.2.2.2))).bind fun r7 =>
      bif r7.1 then
        some (.inr (.inl (x.2.2.1, r7.2)))
      else
        some (.inl (x.1, (x.2.1, ((Go.IntKind.wrap Go.IntKind.i64 (x.2.2.1 + (1 : Int))), r7.2))))
    else
      none
  else
    some (.inr (.inr x.2.2.2))
noncomputable def cx_slices_IndexFunc_api_Wait__waits_First_1_3 : Ctx := { tb := mkTb T2.tbl, fx := [(68, [], Spec.shp si_waits_First_1 so_waits_First_1 F_waits_First_1)], sum := [], nt := 19, pin := 1, nr := true, ys := [] }
theorem L_slices_IndexFunc_api_Wait__waits_First_1_3_ok : CSound Try.prog ⟨19, 1, true⟩ (.loop (loopOf 3 Try.f67)) (pieceSpec sh_slices_IndexFunc_api_Wait__waits_First_1_3 es_slices_IndexFunc_api_Wait__waits_First_1_3 (loop L_slices_IndexFunc_api_Wait__waits_First_1_3)) :=
  loop_sound (C := cx_slices_IndexFunc_api_Wait__waits_First_1_3) (ctxOK mixed tbl_ok rfl ⟨F_waits_First_1_ok, trivial⟩ trivial) (SumOK.of trivial) sh_slices_IndexFunc_api_Wait__waits_First_1_3 es_slices_IndexFunc_api_Wait__waits_First_1_3 rfl rfl L_slices_IndexFunc_api_Wait__waits_First_1_3 (fun x => by kernel_rfl)
abbrev si_slices_IndexFunc_api_Wait__waits_First_1 : Shape := { sl := [(0, (.hole (.slice (.pair (.int .i64) (.pair (.int .i64) (.int .i64)))))), (1, (.fn 68 .nil (.cons (.ptr 0 []) .nil)))], bl := [.var (.hole (.int .i64))], ts := [(.slice (.pair (.int .i64) (.pair (.int .i64) (.int .i64)))), (.int .i64)], pin := 0 }
abbrev so_slices_IndexFunc_api_Wait__waits_First_1 : Shape := { sl := [(0, (.hole (.int .i64)))], bl := [.var (.hole (.int .i64))], ts := [(.int .i64), (.int .i64)], pin := 1 }
noncomputable def F_slices_IndexFunc_api_Wait__waits_First_1 (x : (List ((Int × (Int × Int))) × Int)) : Option (Int × Int) :=
  ((loop L_slices_IndexFunc_api_Wait__waits_First_1_3 (x.1, ((((List.length x.1) : Nat) : Int), ((0 : Int), x.2))))).bind fun r6 =>
  match r6 with
  | .inl y7 =>
    some (y7.1, y7.2)
  | .inr y7 =>
    some ((Int.negSucc 0), y7)
noncomputable def cx_slices_IndexFunc_api_Wait__waits_First_1 : Ctx := { tb := mkTb T2.tbl, fx := [(68, [], Spec.shp si_waits_First_1 so_waits_First_1 F_waits_First_1)], sum := [(0, 3, pieceSpec sh_slices_IndexFunc_api_Wait__waits_First_1_3 es_slices_IndexFunc_api_Wait__waits_First_1_3 (loop L_slices_IndexFunc_api_Wait__waits_First_1_3))], nt := 19, pin := 1, nr := true, ys := [] }
theorem F_slices_IndexFunc_api_Wait__waits_First_1_ok : Sound Try.prog 67 (Spec.shp si_slices_IndexFunc_api_Wait__waits_First_1 so_slices_IndexFunc_api_Wait__waits_First_1 F_slices_IndexFunc_api_Wait__waits_First_1) :=
  Sound.shp (C := cx_slices_IndexFunc_api_Wait__waits_First_1) (fn := Try.f67) (by kernel_rfl) (c := bodyOf Try.f67) (by kernel_rfl) (by decide) (ctxOK mixed tbl_ok rfl ⟨F_waits_First_1_ok, trivial⟩ trivial) (SumOK.of ⟨(pieces_one (d := .loop (loopOf 3 Try.f67)) (by kernel_rfl) L_slices_IndexFunc_api_Wait__waits_First_1_3_ok), trivial⟩) (by kernel_rfl) si_slices_IndexFunc_api_Wait__waits_First_1 so_slices_IndexFunc_api_Wait__waits_First_1 rfl (by decide) (by decide) rfl (by decide) rfl F_slices_IndexFunc_api_Wait__waits_First_1 (fun x => by kernel_rfl)
abbrev si_waits_First : Shape := { sl := [(0, (.hole (.slice (.pair (.int .i64) (.pair (.int .i64) (.int .i64)))))), (1, (.hole (.int .i64)))], bl := [], ts := [(.slice (.pair (.int .i64) (.pair (.int .i64) (.int .i64)))), (.int .i64)], pin := 0 }
abbrev so_waits_First : Shape := { sl := [(0, (.hole (.pair (.int .i64) (.pair (.int .i64) (.int .i64))))), (1, (.hole (.int .i64)))], bl := [], ts := [(.pair (.int .i64) (.pair (.int .i64) (.int .i64))), (.int .i64)], pin := 0 }
noncomputable def F_waits_First (x : (List ((Int × (Int × Int))) × Int)) : Option ((Int × (Int × Int)) × Int) :=
  ((F_waits_Right x.1)).bind fun r4 =>
  bif (Bool.not r4) then
    some (((0 : Int), ((0 : Int), (0 : Int))), (1 : Int))
  else
    bif (decide (x.2 < (0 : Int))) then
      some (((0 : Int), ((0 : Int), (0 : Int))), (1 : Int))
    else
      ((F_slices_IndexFunc_api_Wait__waits_First_1 (x.1, x.2))).bind fun r5 =>
      bif (decide (r5.1 < (0 : Int))) then
        some (((0 : Int), ((0 : Int), (0 : Int))), (4 : Int))
      else
        bif (Go.Proofs.Ytegbkaaibgdheaa.VX.inb r5.1 (List.length x.1)) then
          some ((Go.Proofs.Ytegbkaaibgdheaa.VX.getAt ((0 : Int), ((0 : Int), (0 : Int))) x.1 (Go.Proofs.Ytegbkaaibgdheaa.VX.toN r5.1)), (0 : Int))
        else
          none
noncomputable def cx_waits_First : Ctx := { tb := mkTb T2.tbl, fx := [(47, [], Spec.shp si_waits_Right so_waits_Right F_waits_Right), (67, [68], Spec.shp si_slices_IndexFunc_api_Wait__waits_First_1 so_slices_IndexFunc_api_Wait__waits_First_1 F_slices_IndexFunc_api_Wait__waits_First_1)], sum := [], nt := 25, pin := 0, nr := true, ys := [] }
theorem F_waits_First_ok : Sound Try.prog 28 (Spec.shp si_waits_First so_waits_First F_waits_First) :=
  Sound.shp (C := cx_waits_First) (fn := Try.f28) (by kernel_rfl) (c := bodyOf Try.f28) (by kernel_rfl) (by decide) (ctxOK mixed tbl_ok rfl ⟨F_waits_Right_ok, F_slices_IndexFunc_api_Wait__waits_First_1_ok, trivial⟩ trivial) (SumOK.of trivial) (by kernel_rfl) si_waits_First so_waits_First rfl (by decide) (by decide) rfl (by decide) rfl F_waits_First (fun x => by kernel_rfl)
abbrev si_waits_Drop_1 : Shape := { sl := [(0, (.hole (.pair (.int .i64) (.pair (.int .i64) (.int .i64))))), (1, (.ptr 0 []))], bl := [.var (.hole (.int .i64))], ts := [(.pair (.int .i64) (.pair (.int .i64) (.int .i64))), (.int .i64)], pin := 0 }
abbrev so_waits_Drop_1 : Shape := { sl := [(0, (.hole .bool))], bl := [.var (.hole (.int .i64))], ts := [.bool, (.int .i64)], pin := 1 }
noncomputable def F_waits_Drop_1 (x : ((Int × (Int × Int)) × Int)) : Option (Bool × Int) :=
  some ((x.1.1 == x.2), x.2)
noncomputable def cx_waits_Drop_1 : Ctx := { tb := mkTb T2.tbl, fx := [], sum := [], nt := 8, pin := 1, nr := true, ys := [] }
theorem F_waits_Drop_1_ok : Sound Try.prog 64 (Spec.shp si_waits_Drop_1 so_waits_Drop_1 F_waits_Drop_1) :=
  Sound.shp (C := cx_waits_Drop_1) (fn := Try.f64) (by kernel_rfl) (c := bodyOf Try.f64) (by kernel_rfl) (by decide) (ctxOK mixed tbl_ok rfl trivial trivial) (SumOK.of trivial) (by kernel_rfl) si_waits_Drop_1 so_waits_Drop_1 rfl (by decide) (by decide) rfl (by decide) rfl F_waits_Drop_1 (fun x => by kernel_rfl)
abbrev sh_slices_IndexFunc_api_Wait__waits_Drop_1_lent_3 : Shape := { sl := [(0, (.sl 0)), (1, (.fn 64 .nil (.cons (.ptr 1 []) .nil))), (7, (.hole (.int .i64))), (8, (.hole (.int .i64)))], bl := [.row (.pair (.int .i64) (.pair (.int .i64) (.int .i64))), .var (.hole (.int .i64))], ts := [(.int .i64), (.int .i64), (.slice (.pair (.int .i64) (.pair (.int .i64) (.int .i64)))), (.int .i64)], pin := 2 }
abbrev es_slices_IndexFunc_api_Wait__waits_Drop_1_lent_3 : List (ETag × Shape) := [(.ret, { sl := [(4, (.hole (.int .i64)))], bl := [.row (.pair (.int .i64) (.pair (.int .i64) (.int .i64))), .var (.hole (.int .i64))], ts := [(.int .i64), (.slice (.pair (.int .i64) (.pair (.int .i64) (.int .i64)))), (.int .i64)], pin := 2 }), (.exit 0, { sl := [], bl := [.row (.pair (.int .i64) (.pair (.int .i64) (.int .i64))), .var (.hole (.int .i64))], ts := [(.slice (.pair (.int .i64) (.pair (.int .i64) (.int .i64)))), (.int .i64)], pin := 2 })]
noncomputable def L_slices_IndexFunc_api_Wait__waits_Drop_1_lent_3 (x : (Int × Int × List ((Int × (Int × Int))) × Int)) : Option ((Int × Int × List ((Int × (Int × Int))) × Int) ⊕ ((Int × List ((Int × (Int × Int))) × Int) ⊕ (List ((Int × (Int × Int))) × Int))) :=
  bif (decide (x.2.1 < x.1)) then
    bif (Go.Proofs.Ytegbkaaibgdheaa.VX.inb x.2.1 (List.length x.2.2.1)) then
      ((F_waits_Drop_1 ((Go.Proofs.Ytegbkaaibgdheaa.VX.getAt ((0 : Int), ((0 : Int), (0 : Int))) x.2.2.1 (Go.Proofs.Ytegbkaaibgdheaa.VX.toN x.2.1)), x.2.2.2))).bind fun r10 =>
      bif r10.1 then
        some (.inr (.inl (x.2.1, (x.2.2.1, r10.2))))
      else
        some (.inl (x.1, ((Go.IntKind.wrap Go.IntKind.i64 (x.2.1 + (1 : Int))), (x.2.2.1, r10.2))))
    else
      none
  else
    some (.inr (.inr (x.2.2.1, x.2.2.2)))
noncomputable def cx_slices_IndexFunc_api_Wait__waits_Drop_1_lent_3 : Ctx := { tb := mkTb T2.tbl, fx := [(64, [], Spec.shp si_waits_Drop_1 so_waits_Drop_1 F_waits_Drop_1)], sum := [], nt := 19, pin := 2, nr := true, ys := [] }
theorem L_slices_IndexFunc_api_Wait__waits_Drop_1_lent_3_ok : CSound Try.prog ⟨19, 2, true⟩ (.loop (loopOf 3 Try.f67)) (pieceSpec sh_slices_IndexFunc_api_Wait__waits_Drop_1_lent_3 es_slices_IndexFunc_api_Wait__waits_Drop_1_lent_3 (loop L_slices_IndexFunc_api_Wait__waits_Drop_1_lent_3)) :=
  loop_sound (C := cx_slices_IndexFunc_api_Wait__waits_Drop_1_lent_3) (ctxOK mixed tbl_ok rfl ⟨F_waits_Drop_1_ok, trivial⟩ trivial) (SumOK.of trivial) sh_slices_IndexFunc_api_Wait__waits_Drop_1_lent_3 es_slices_IndexFunc_api_Wait__waits_Drop_1_lent_3 rfl rfl L_slices_IndexFunc_api_Wait__waits_Drop_1_lent_3 (fun x => by kernel_rfl)
abbrev si_slices_IndexFunc_api_Wait__waits_Drop_1_lent : Shape := { sl := [(0, (.sl 0)), (1, (.fn 64 .nil (.cons (.ptr 1 []) .nil)))], bl := [.row (.pair (.int .i64) (.pair (.int .i64) (.int .i64))), .var (.hole (.int .i64))], ts := [(.slice (.pair (.int .i64) (.pair (.int .i64) (.int .i64)))), (.int .i64)], pin := 0 }
abbrev so_slices_IndexFunc_api_Wait__waits_Drop_1_lent : Shape := { sl := [(0, (.hole (.int .i64)))], bl := [.row (.pair (.int .i64) (.pair (.int .i64) (.int .i64))), .var (.hole (.int .i64))], ts := [(.int .i64), (.slice (.pair (.int .i64) (.pair (.int .i64) (.int .i64)))), (.int .i64)], pin := 2 }
noncomputable def F_slices_IndexFunc_api_Wait__waits_Drop_1_lent (x : (List ((Int × (Int × Int))) × Int)) : Option (Int × List ((Int × (Int × Int))) × Int) :=
  ((loop L_slices_IndexFunc_api_Wait__waits_Drop_1_lent_3 ((((List.length x.1) : Nat) : Int), ((0 : Int), (x.1, x.2))))).bind fun r9 =>
  match r9 with
  | .inl y10 =>
    some (y10.1, (y10.2.1, y10.2.2))
  | .inr y10 =>
    some ((Int.negSucc 0), (y10.1, y10.2))
noncomputable def cx_slices_IndexFunc_api_Wait__waits_Drop_1_lent : Ctx := { tb := mkTb T2.tbl, fx := [(64, [], Spec.shp si_waits_Drop_1 so_waits_Drop_1 F_waits_Drop_1)], sum := [(0, 3, pieceSpec sh_slices_IndexFunc_api_Wait__waits_Drop_1_lent_3 es_slices_IndexFunc_api_Wait__waits_Drop_1_lent_3 (loop L_slices_IndexFunc_api_Wait__waits_Drop_1_lent_3))], nt := 19, pin := 2, nr := true, ys := [] }
theorem F_slices_IndexFunc_api_Wait__waits_Drop_1_lent_ok : Sound Try.prog 67 (Spec.shp si_slices_IndexFunc_api_Wait__waits_Drop_1_lent so_slices_IndexFunc_api_Wait__waits_Drop_1_lent F_slices_IndexFunc_api_Wait__waits_Drop_1_lent) :=
  Sound.shp (C := cx_slices_IndexFunc_api_Wait__waits_Drop_1_lent) (fn := Try.f67) (by kernel_rfl) (c := bodyOf Try.f67) (by kernel_rfl) (by decide) (ctxOK mixed tbl_ok rfl ⟨F_waits_Drop_1_ok, trivial⟩ trivial) (SumOK.of ⟨(pieces_one (d := .loop (loopOf 3 Try.f67)) (by kernel_rfl) L_slices_IndexFunc_api_Wait__waits_Drop_1_lent_3_ok), trivial⟩) (by kernel_rfl) si_slices_IndexFunc_api_Wait__waits_Drop_1_lent so_slices_IndexFunc_api_Wait__waits_Drop_1_lent rfl (by decide) (by decide) rfl (by decide) rfl F_slices_IndexFunc_api_Wait__waits_Drop_1_lent (fun x => by kernel_rfl)
abbrev sh_slices_DeleteFunc_api_Wait__waits_Drop_1_6 : Shape := { sl := [(0, (.sl 1)), (1, (.fn 64 .nil (.cons (.ptr 0 []) .nil))), (5, (.hole (.int .i64))), (6, (.hole (.int .i64)))], bl := [.var (.hole (.int .i64)), .row (.pair (.int .i64) (.pair (.int .i64) (.int .i64)))], ts := [(.int .i64), (.int .i64), (.int .i64), (.slice (.pair (.int .i64) (.pair (.int .i64) (.int .i64))))], pin := 1 }
abbrev es_slices_DeleteFunc_api_Wait__waits_Drop_1_6 : List (ETag × Shape) := [(.exit 0, { sl := [(0, (.sl 1)), (5, (.hole (.int .i64)))], bl := [.var (.hole (.int .i64)), .row (.pair (.int .i64) (.pair (.int .i64) (.int .i64)))], ts := [(.int .i64), (.int .i64), (.slice (.pair (.int .i64) (.pair (.int .i64) (.int .i64))))], pin := 1 })]
noncomputable def L_slices_DeleteFunc_api_Wait__waits_Drop_1_6 (x : (Int × Int × Int × List ((Int × (Int × Int))))) : Option ((Int × Int × Int × List ((Int × (Int × Int)))) ⊕ ((Int × Int × List ((Int × (Int × Int)))))) :=
  bif (decide (x.2.1 < (((List.length x.2.2.2) : Nat) : Int))) then
    bif (Go.Proofs.Ytegbkaaibgdheaa.VX.inb x.2.1 (List.length x.2.2.2)) then
      ((F_waits_Drop_1 ((Go.Proofs.Ytegbkaaibgdheaa.VX.getAt ((0 : Int), ((0 : Int), (0 : Int))) x.2.2.2 (Go.Proofs.Ytegbkaaibgdheaa.VX.toN x.2.1)), x.2.2.1))).bind fun r10 =>
      bif (Bool.not r10.1) then
        bif (Go.Proofs.Ytegbkaaibgdheaa.VX.inb x.1 (List.length x.2.2.2)) then
          some (.inl ((Go.IntKind.wrap Go.IntKind.i64 (x.1 + (1 : Int))), ((Go.IntKind.wrap Go.IntKind.i64 (x.2.1 + (1 : Int))), (r10.2, (List.set x.2.2.2 (Go.Proofs.Ytegbkaaibgdheaa.VX.toN x.1) (Go.Proofs.Ytegbkaaibgdheaa.VX.getAt ((0 : Int), ((0 : Int), (0 : Int))) x.2.2.2 (Go.Proofs.Ytegbkaaibgdheaa.VX.toN x.2.1)))))))
        else
          none
      else
        some (.inl (x.1, ((Go.IntKind.wrap Go.IntKind.i64 (x.2.1 + (1 : Int))), (r10.2, x.2.2.2))))
    else
      none
  else
    some (.inr (x.1, (x.2.2.1, x.2.2.2)))
noncomputable def cx_slices_DeleteFunc_api_Wait__waits_Drop_1_6 : Ctx := { tb := mkTb T2.tbl, fx := [(67, [2000000, 64], Spec.shp si_slices_IndexFunc_api_Wait__waits_Drop_1_lent so_slices_IndexFunc_api_Wait__waits_Drop_1_lent F_slices_IndexFunc_api_Wait__waits_Drop_1_lent), (64, [], Spec.shp si_waits_Drop_1 so_waits_Drop_1 F_waits_Drop_1)], sum := [], nt := 42, pin := 1, nr := true, ys := [] }
theorem L_slices_DeleteFunc_api_Wait__waits_Drop_1_6_ok : CSound Try.prog ⟨42, 1, true⟩ (.loop (loopOf 6 Try.f62)) (pieceSpec sh_slices_DeleteFunc_api_Wait__waits_Drop_1_6 es_slices_DeleteFunc_api_Wait__waits_Drop_1_6 (loop L_slices_DeleteFunc_api_Wait__waits_Drop_1_6)) :=
  loop_sound (C := cx_slices_DeleteFunc_api_Wait__waits_Drop_1_6) (ctxOK mixed tbl_ok rfl ⟨F_slices_IndexFunc_api_Wait__waits_Drop_1_lent_ok, F_waits_Drop_1_ok, trivial⟩ trivial) (SumOK.of trivial) sh_slices_DeleteFunc_api_Wait__waits_Drop_1_6 es_slices_DeleteFunc_api_Wait__waits_Drop_1_6 rfl rfl L_slices_DeleteFunc_api_Wait__waits_Drop_1_6 (fun x => by kernel_rfl)
abbrev si_slices_DeleteFunc_api_Wait__waits_Drop_1 : Shape := { sl := [(0, (.sl 1)), (1, (.fn 64 .nil (.cons (.ptr 0 []) .nil)))], bl := [.var (.hole (.int .i64)), .row (.pair (.int .i64) (.pair (.int .i64) (.int .i64)))], ts := [(.int .i64), (.slice (.pair (.int .i64) (.pair (.int .i64) (.int .i64))))], pin := 0 }
abbrev so_slices_DeleteFunc_api_Wait__waits_Drop_1 : Shape := { sl := [(0, (.hole (.slice (.pair (.int .i64) (.pair (.int .i64) (.int .i64))))))], bl := [.var (.hole (.int .i64))], ts := [(.slice (.pair (.int .i64) (.pair (.int .i64) (.int .i64)))), (.int .i64)], pin := 1 }
noncomputable def F_slices_DeleteFunc_api_Wait__waits_Drop_1 (x : (Int × List ((Int × (Int × Int))))) : Option (List ((Int × (Int × Int))) × Int) :=
  ((F_slices_IndexFunc_api_Wait__waits_Drop_1_lent (x.2, x.1))).bind fun r8 =>
  bif (r8.1 == (Int.negSucc 0)) then
    some (r8.2.1, r8.2.2)
  else
    ((loop L_slices_DeleteFunc_api_Wait__waits_Drop_1_6 (r8.1, ((Go.IntKind.wrap Go.IntKind.i64 (r8.1 + (1 : Int))), (r8.2.2, r8.2.1))))).bind fun r9 =>
    bif (Go.Proofs.Ytegbkaaibgdheaa.VX.sub3 r9.1 (((List.length r9.2.2) : Nat) : Int) (List.length r9.2.2)) then
      bif (Go.Proofs.Ytegbkaaibgdheaa.VX.sub3 (0 : Int) r9.1 (List.length (Go.Proofs.Ytegbkaaibgdheaa.VX.over r9.2.2 (List.replicate ((Go.Proofs.Ytegbkaaibgdheaa.VX.toN (((List.length r9.2.2) : Nat) : Int)) - (Go.Proofs.Ytegbkaaibgdheaa.VX.toN r9.1)) ((0 : Int), ((0 : Int), (0 : Int)))) (Go.Proofs.Ytegbkaaibgdheaa.VX.toN r9.1) ((Go.Proofs.Ytegbkaaibgdheaa.VX.toN (((List.length r9.2.2) : Nat) : Int)) - (Go.Proofs.Ytegbkaaibgdheaa.VX.toN r9.1))))) then
        some ((Go.Proofs.Ytegbkaaibgdheaa.VX.cut (Go.Proofs.Ytegbkaaibgdheaa.VX.over r9.2.2 (List.replicate ((Go.Proofs.Ytegbkaaibgdheaa.VX.toN (((List.length r9.2.2) : Nat) : Int)) - (Go.Proofs.Ytegbkaaibgdheaa.VX.toN r9.1)) ((0 : Int), ((0 : Int), (0 : Int)))) (Go.Proofs.Ytegbkaaibgdheaa.VX.toN r9.1) ((Go.Proofs.Ytegbkaaibgdheaa.VX.toN (((List.length r9.2.2) : Nat) : Int)) - (Go.Proofs.Ytegbkaaibgdheaa.VX.toN r9.1))) (Go.Proofs.Ytegbkaaibgdheaa.VX.toN (0 : Int)) ((Go.Proofs.Ytegbkaaibgdheaa.VX.toN r9.1) - (Go.Proofs.Ytegbkaaibgdheaa.VX.toN (0 : Int)))), r9.2.1)
      else
        none
    else
      none
noncomputable def cx_slices_DeleteFunc_api_Wait__waits_Drop_1 : Ctx := { tb := mkTb T2.tbl, fx := [(67, [2000000, 64], Spec.shp si_slices_IndexFunc_api_Wait__waits_Drop_1_lent so_slices_IndexFunc_api_Wait__waits_Drop_1_lent F_slices_IndexFunc_api_Wait__waits_Drop_1_lent), (64, [], Spec.shp si_waits_Drop_1 so_waits_Drop_1 F_waits_Drop_1)], sum := [(0, 6, pieceSpec sh_slices_DeleteFunc_api_Wait__waits_Drop_1_6 es_slices_DeleteFunc_api_Wait__waits_Drop_1_6 (loop L_slices_DeleteFunc_api_Wait__waits_Drop_1_6))], nt := 42, pin := 1, nr := true, ys := [] }
theorem F_slices_DeleteFunc_api_Wait__waits_Drop_1_ok : Sound Try.prog 62 (Spec.shp si_slices_DeleteFunc_api_Wait__waits_Drop_1 so_slices_DeleteFunc_api_Wait__waits_Drop_1 F_slices_DeleteFunc_api_Wait__waits_Drop_1) :=
  Sound.shp (C := cx_slices_DeleteFunc_api_Wait__waits_Drop_1) (fn := Try.f62) (by kernel_rfl) (c := bodyOf Try.f62) (by kernel_rfl) (by decide) (ctxOK mixed tbl_ok rfl ⟨F_slices_IndexFunc_api_Wait__waits_Drop_1_lent_ok, F_waits_Drop_1_ok, trivial⟩ trivial) (SumOK.of ⟨(pieces_one (d := .loop (loopOf 6 Try.f62)) (by kernel_rfl) L_slices_DeleteFunc_api_Wait__waits_Drop_1_6_ok), trivial⟩) (by kernel_rfl) si_slices_DeleteFunc_api_Wait__waits_Drop_1 so_slices_DeleteFunc_api_Wait__waits_Drop_1 rfl (by decide) (by decide) rfl (by decide) rfl F_slices_DeleteFunc_api_Wait__waits_Drop_1 (fun x => by kernel_rfl)
abbrev si_waits_Drop : Shape := { sl := [(0, (.hole (.slice (.pair (.int .i64) (.pair (.int .i64) (.int .i64)))))), (1, (.hole (.int .i64)))], bl := [], ts := [(.slice (.pair (.int .i64) (.pair (.int .i64) (.int .i64)))), (.int .i64)], pin := 0 }
abbrev so_waits_Drop : Shape := { sl := [(0, (.hole (.slice (.pair (.int .i64) (.pair (.int .i64) (.int .i64)))))), (1, (.hole (.int .i64)))], bl := [], ts := [(.slice (.pair (.int .i64) (.pair (.int .i64) (.int .i64)))), (.int .i64)], pin := 0 }
noncomputable def F_waits_Drop (x : (List ((Int × (Int × Int))) × Int)) : Option (List ((Int × (Int × Int))) × Int) :=
  ((F_waits_Right x.1)).bind fun r5 =>
  bif (Bool.not r5) then
    some (([] : List (Int × (Int × Int))), (1 : Int))
  else
    bif (decide (x.2 < (0 : Int))) then
      some (([] : List (Int × (Int × Int))), (1 : Int))
    else
      ((F_slices_Clone_api_Wait x.1)).bind fun r6 =>
      ((F_slices_DeleteFunc_api_Wait__waits_Drop_1 (x.2, r6))).bind fun r7 =>
      some (r7.1, (0 : Int))
noncomputable def cx_waits_Drop : Ctx := { tb := mkTb T2.tbl, fx := [(47, [], Spec.shp si_waits_Right so_waits_Right F_waits_Right), (63, [], Spec.shp si_slices_Clone_api_Wait so_slices_Clone_api_Wait F_slices_Clone_api_Wait), (62, [2000000, 64], Spec.shp si_slices_DeleteFunc_api_Wait__waits_Drop_1 so_slices_DeleteFunc_api_Wait__waits_Drop_1 F_slices_DeleteFunc_api_Wait__waits_Drop_1)], sum := [], nt := 17, pin := 0, nr := true, ys := [] }
theorem F_waits_Drop_ok : Sound Try.prog 23 (Spec.shp si_waits_Drop so_waits_Drop F_waits_Drop) :=
  Sound.shp (C := cx_waits_Drop) (fn := Try.f23) (by kernel_rfl) (c := bodyOf Try.f23) (by kernel_rfl) (by decide) (ctxOK mixed tbl_ok rfl ⟨F_waits_Right_ok, F_slices_Clone_api_Wait_ok, F_slices_DeleteFunc_api_Wait__waits_Drop_1_ok, trivial⟩ trivial) (SumOK.of trivial) (by kernel_rfl) si_waits_Drop so_waits_Drop rfl (by decide) (by decide) rfl (by decide) rfl F_waits_Drop (fun x => by kernel_rfl)
abbrev sh_waits_Who_7 : Shape := { sl := [(4, (.sl 1)), (5, (.mp 0)), (12, (.hole (.slice (.pair (.int .i64) (.pair (.int .i64) (.int .i64)))))), (13, (.hole (.int .i64))), (14, (.hole (.int .i64)))], bl := [.mp (.int .i64) (.int .i64), .row (.int .i64)], ts := [(.slice (.pair (.int .i64) (.pair (.int .i64) (.int .i64)))), (.int .i64), (.int .i64), (.slice (.pair (.int .i64) (.int .i64))), (.slice (.int .i64))], pin := 0 }
abbrev es_waits_Who_7 : List (ETag × Shape) := [(.exit 0, { sl := [(4, (.sl 0))], bl := [.row (.int .i64)], ts := [(.slice (.int .i64))], pin := 0 })]
noncomputable def L_waits_Who_7 (x : (List ((Int × (Int × Int))) × Int × Int × List ((Int × Int)) × List (Int))) : Option ((List ((Int × (Int × Int))) × Int × Int × List ((Int × Int)) × List (Int)) ⊕ ((List (Int)))) :=
  bif (decide (x.2.2.1 < x.2.1)) then
    bif (Go.Proofs.Ytegbkaaibgdheaa.VX.inb x.2.2.1 (List.length x.1)) then
      bif ((@Go.Proofs.Ytegbkaaibgdheaa.VX.mlook (Int) (Int) (Go.Proofs.Ytegbkaaibgdheaa.VX.Ty.beq (.int .i64)) (Go.Proofs.Ytegbkaaibgdheaa.VX.Ty.zero (.int .i64)) (Go.Proofs.Ytegbkaaibgdheaa.VX.getAt ((0 : Int), ((0 : Int), (0 : Int))) x.1 (Go.Proofs.Ytegbkaaibgdheaa.VX.toN x.2.2.1)).1 (@Go.Proofs.Ytegbkaaibgdheaa.VX.mput (Int) (Int) (Go.Proofs.Ytegbkaaibgdheaa.VX.Ty.beq (.int .i64)) (Go.Proofs.Ytegbkaaibgdheaa.VX.getAt ((0 : Int), ((0 : Int), (0 : Int))) x.1 (Go.Proofs.Ytegbkaaibgdheaa.VX.toN x.2.2.1)).1 (Go.IntKind.wrap Go.IntKind.i64 ((@Go.Proofs.Ytegbkaaibgdheaa.VX.mlook (Int) (Int) (Go.Proofs.Ytegbkaaibgdheaa.VX.Ty.beq (.int .i64)) (Go.Proofs.Ytegbkaaibgdheaa.VX.Ty.zero (.int .i64)) (Go.Proofs.Ytegbkaaibgdheaa.VX.getAt ((0 : Int), ((0 : Int), (0 : Int))) x.1 (Go.Proofs.Ytegbkaaibgdheaa.VX.toN x.2.2.1)).1 x.2.2.2.1) + (1 : Int))) x.2.2.2.1)) == (1 : Int)) then
        bif (Go.Proofs.Ytegbkaaibgdheaa.VX.fits ((List.length x.2.2.2.2) + (List.length ((Go.Proofs.Ytegbkaaibgdheaa.VX.getAt ((0 : Int), ((0 : Int), (0 : Int))) x.1 (Go.Proofs.Ytegbkaaibgdheaa.VX.toN x.2.2.1)).1 :: ([] : List Int))))) then
          some (.inl (x.1, (x.2.1, ((Go.IntKind.wrap Go.IntKind.i64 (x.2.2.1 + (1 : Int))), ((@Go.Proofs.Ytegbkaaibgdheaa.VX.mput (Int) (Int) (Go.Proofs.Ytegbkaaibgdheaa.VX.Ty.beq (.int .i64)) (Go.Proofs.Ytegbkaaibgdheaa.VX.getAt ((0 : Int), ((0 : Int), (0 : Int))) x.1 (Go.Proofs.Ytegbkaaibgdheaa.VX.toN x.2.2.1)).1 (Go.IntKind.wrap Go.IntKind.i64 ((@Go.Proofs.Ytegbkaaibgdheaa.VX.mlook (Int) (Int) (Go.Proofs.Ytegbkaaibgdheaa.VX.Ty.beq (.int .i64)) (Go.Proofs.Ytegbkaaibgdheaa.VX.Ty.zero (.int .i64)) (Go.Proofs.Ytegbkaaibgdheaa.VX.getAt ((0 : Int), ((0 : Int), (0 : Int))) x.1 (Go.Proofs.Ytegbkaaibgdheaa.VX.toN x.2.2.1)).1 x.2.2.2.1) + (1 : Int))) x.2.2.2.1), (x.2.2.2.2 ++ ((Go.Proofs.Ytegbkaaibgdheaa.VX.getAt ((0 : Int), ((0 : Int), (0 : Int))) x.1 (Go.Proofs.Ytegbkaaibgdheaa.VX.toN x.2.2.1)).1 :: ([] : List Int))))))))
        else
          none
      else
        some (.inl (x.1, (x.2.1, ((Go.IntKind.wrap Go.IntKind.i64 (x.2.2.1 + (1 : Int))), ((@Go.Proofs.Ytegbkaaibgdheaa.VX.mput (Int) (Int) (Go.Proofs.Ytegbkaaibgdheaa.VX.Ty.beq (.int .i64)) (Go.Proofs.Ytegbkaaibgdheaa.VX.getAt ((0 : Int), ((0 : Int), (0 : Int))) x.1 (Go.Proofs.Ytegbkaaibgdheaa.VX.toN x.2.2.1)).1 (Go.IntKind.wrap Go.IntKind.i64 ((@Go.Proofs.Ytegbkaaibgdheaa.VX.mlook (Int) (Int) (Go.Proofs.Ytegbkaaibgdheaa.VX.Ty.beq (.int .i64)) (Go.Proofs.Ytegbkaaibgdheaa.VX.Ty.zero (.int .i64)) (Go.Proofs.Ytegbkaaibgdheaa.VX.getAt ((0 : Int), ((0 : Int), (0 : Int))) x.1 (Go.Proofs.Ytegbkaaibgdheaa.VX.toN x.2.2.1)).1 x.2.2.2.1) + (1 : Int))) x.2.2.2.1), x.2.2.2.2)))))
    else
      none
  else
    some (.inr x.2.2.2.2)
noncomputable def cx_waits_Who_7 : Ctx := { tb := mkTb T2.tbl, fx := [(47, [], Spec.shp si_waits_Right so_waits_Right F_waits_Right)], sum := [], nt := 35, pin := 0, nr := true, ys := [] }
theorem L_waits_Who_7_ok : CSound Try.prog ⟨35, 0, true⟩ (.loop (loopOf 7 Try.f34)) (pieceSpec sh_waits_Who_7 es_waits_Who_7 (loop L_waits_Who_7)) :=
  loop_sound (C := cx_waits_Who_7) (ctxOK mixed tbl_ok rfl ⟨F_waits_Right_ok, trivial⟩ trivial) (SumOK.of trivial) sh_waits_Who_7 es_waits_Who_7 rfl rfl L_waits_Who_7 (fun x => by kernel_rfl)
abbrev si_waits_Who : Shape := { sl := [(0, (.hole (.slice (.pair (.int .i64) (.pair (.int .i64) (.int .i64))))))], bl := [], ts := [(.slice (.pair (.int .i64) (.pair (.int .i64) (.int .i64))))], pin := 0 }
abbrev so_waits_Who : Shape := { sl := [(0, (.hole (.slice (.int .i64)))), (1, (.hole (.int .i64)))], bl := [], ts := [(.slice (.int .i64)), (.int .i64)], pin := 0 }
noncomputable def F_waits_Who (x : (List ((Int × (Int × Int))))) : Option (List (Int) × Int) :=
  ((F_waits_Right x)).bind fun r6 =>
  bif (Bool.not r6) then
    some (([] : List Int), (1 : Int))
  else
    ((loop L_waits_Who_7 (x, ((((List.length x) : Nat) : Int), ((0 : Int), (([] : List (Int × Int)), ([] : List Int))))))).bind fun r7 =>
    some (r7, (0 : Int))
noncomputable def cx_waits_Who : Ctx := { tb := mkTb T2.tbl, fx := [(47, [], Spec.shp si_waits_Right so_waits_Right F_waits_Right)], sum := [(0, 7, pieceSpec sh_waits_Who_7 es_waits_Who_7 (loop L_waits_Who_7))], nt := 35, pin := 0, nr := true, ys := [] }
theorem F_waits_Who_ok : Sound Try.prog 34 (Spec.shp si_waits_Who so_waits_Who F_waits_Who) :=
  Sound.shp (C := cx_waits_Who) (fn := Try.f34) (by kernel_rfl) (c := bodyOf Try.f34) (by kernel_rfl) (by decide) (ctxOK mixed tbl_ok rfl ⟨F_waits_Right_ok, trivial⟩ trivial) (SumOK.of ⟨(pieces_one (d := .loop (loopOf 7 Try.f34)) (by kernel_rfl) L_waits_Who_7_ok), trivial⟩) (by kernel_rfl) si_waits_Who so_waits_Who rfl (by decide) (by decide) rfl (by decide) rfl F_waits_Who (fun x => by kernel_rfl)
abbrev si_plaitref05_May : Shape := { sl := [(0, (.hole (.pair (.int .i64) (.pair (.int .i64) (.int .i64)))))], bl := [], ts := [(.pair (.int .i64) (.pair (.int .i64) (.int .i64)))], pin := 0 }
abbrev so_plaitref05_May : Shape := { sl := [(0, (.hole .bool))], bl := [], ts := [.bool], pin := 0 }
noncomputable def F_plaitref05_May (x : ((Int × (Int × Int)))) : Option (Bool) :=
  bif (decide (x.1 ≥ (0 : Int))) then
    bif (decide (x.2.1 ≥ (0 : Int))) then
      some (decide (x.2.2 ≥ (0 : Int)))
    else
      some false
  else
    some false
noncomputable def cx_plaitref05_May : Ctx := { tb := mkTb T2.tbl, fx := [], sum := [], nt := 16, pin := 0, nr := true, ys := [] }
theorem F_plaitref05_May_ok : Sound Try.prog 44 (Spec.shp si_plaitref05_May so_plaitref05_May F_plaitref05_May) :=
  Sound.shp (C := cx_plaitref05_May) (fn := Try.f44) (by kernel_rfl) (c := bodyOf Try.f44) (by kernel_rfl) (by decide) (ctxOK mixed tbl_ok rfl trivial trivial) (SumOK.of trivial) (by kernel_rfl) si_plaitref05_May so_plaitref05_May rfl (by decide) (by decide) rfl (by decide) rfl F_plaitref05_May (fun x => by kernel_rfl)
abbrev sh_plaitref05_Has_3 : Shape := { sl := [(1, (.hole (.int .i64))), (2, (.hole (.int .i64))), (9, (.hole (.slice (.pair (.int .i64) (.pair (.int .i64) (.int .i64)))))), (10, (.hole (.int .i64))), (11, (.hole (.int .i64)))], bl := [], ts := [(.int .i64), (.int .i64), (.slice (.pair (.int .i64) (.pair (.int .i64) (.int .i64)))), (.int .i64), (.int .i64)], pin := 0 }
abbrev es_plaitref05_Has_3 : List (ETag × Shape) := [(.ret, { sl := [(6, (.hole .bool))], bl := [], ts := [.bool], pin := 0 }), (.exit 0, { sl := [], bl := [], ts := [], pin := 0 })]
noncomputable def L_plaitref05_Has_3 (x : (Int × Int × List ((Int × (Int × Int))) × Int × Int)) : Option ((Int × Int × List ((Int × (Int × Int))) × Int × Int) ⊕ ((Bool) ⊕ Unit)) :=
  bif (decide (x.2.2.2.2 < x.2.2.2.1)) then
    bif (Go.Proofs.Ytegbkaaibgdheaa.VX.inb x.2.2.2.2 (List.length x.2.2.1)) then
      bif ((Go.Proofs.Ytegbkaaibgdheaa.VX.getAt ((0 : Int), ((0 : Int), (0 : Int))) x.2.2.1 (Go.Proofs.Ytegbkaaibgdheaa.VX.toN x.2.2.2.2)).1 == x.1) then
        bif ((Go.Proofs.Ytegbkaaibgdheaa.VX.getAt ((0 : Int), ((0 : Int), (0 : Int))) x.2.2.1 (Go.Proofs.Ytegbkaaibgdheaa.VX.toN x.2.2.2.2)).2.1 == x.2.1) then
          some (.inr (.inl true))
        else
          some (.inl (x.1, (x.2.1, (x.2.2.1, (x.2.2.2.1, (Go.IntKind.wrap Go.IntKind.i64 (x.2.2.2.2 + (1 : Int))))))))
      else
        some (.inl (x.1, (x.2.1, (x.2.2.1, (x.2.2.2.1, (Go.IntKind.wrap Go.IntKind.i64 (x.2.2.2.2 + (1 : Int))))))))
    else
      none
  else
    some (.inr (.inr ()))
noncomputable def cx_plaitref05_Has_3 : Ctx := { tb := mkTb T2.tbl, fx := [], sum := [], nt := 26, pin := 0, nr := true, ys := [] }
theorem L_plaitref05_Has_3_ok : CSound Try.prog ⟨26, 0, true⟩ (.loop (loopOf 3 Try.f26)) (pieceSpec sh_plaitref05_Has_3 es_plaitref05_Has_3 (loop L_plaitref05_Has_3)) :=
  loop_sound (C := cx_plaitref05_Has_3) (ctxOK mixed tbl_ok rfl trivial trivial) (SumOK.of trivial) sh_plaitref05_Has_3 es_plaitref05_Has_3 rfl rfl L_plaitref05_Has_3 (fun x => by kernel_rfl)
abbrev si_plaitref05_Has : Shape := { sl := [(0, (.hole (.slice (.pair (.int .i64) (.pair (.int .i64) (.int .i64)))))), (1, (.hole (.int .i64))), (2, (.hole (.int .i64)))], bl := [], ts := [(.slice (.pair (.int .i64) (.pair (.int .i64) (.int .i64)))), (.int .i64), (.int .i64)], pin := 0 }
abbrev so_plaitref05_Has : Shape := { sl := [(0, (.hole .bool))], bl := [], ts := [.bool], pin := 0 }
noncomputable def F_plaitref05_Has (x : (List ((Int × (Int × Int))) × Int × Int)) : Option (Bool) :=
  ((loop L_plaitref05_Has_3 (x.2.1, (x.2.2, (x.1, ((((List.length x.1) : Nat) : Int), (0 : Int))))))).bind fun r10 =>
  match r10 with
  | .inl y11 =>
    some y11
  | .inr y11 =>
    some false
noncomputable def cx_plaitref05_Has : Ctx := { tb := mkTb T2.tbl, fx := [], sum := [(0, 3, pieceSpec sh_plaitref05_Has_3 es_plaitref05_Has_3 (loop L_plaitref05_Has_3))], nt := 26, pin := 0, nr := true, ys := [] }
theorem F_plaitref05_Has_ok : Sound Try.prog 26 (Spec.shp si_plaitref05_Has so_plaitref05_Has F_plaitref05_Has) :=
  Sound.shp (C := cx_plaitref05_Has) (fn := Try.f26) (by kernel_rfl) (c := bodyOf Try.f26) (by kernel_rfl) (by decide) (ctxOK mixed tbl_ok rfl trivial trivial) (SumOK.of ⟨(pieces_one (d := .loop (loopOf 3 Try.f26)) (by kernel_rfl) L_plaitref05_Has_3_ok), trivial⟩) (by kernel_rfl) si_plaitref05_Has so_plaitref05_Has rfl (by decide) (by decide) rfl (by decide) rfl F_plaitref05_Has (fun x => by kernel_rfl)
abbrev sh_plaitref05_Right_3 : Shape := { sl := [(0, (.hole (.slice (.pair (.int .i64) (.pair (.int .i64) (.int .i64)))))), (5, (.hole (.slice (.pair (.int .i64) (.pair (.int .i64) (.int .i64)))))), (6, (.hole (.int .i64))), (7, (.hole (.int .i64)))], bl := [], ts := [(.slice (.pair (.int .i64) (.pair (.int .i64) (.int .i64)))), (.slice (.pair (.int .i64) (.pair (.int .i64) (.int .i64)))), (.int .i64), (.int .i64)], pin := 0 }
abbrev es_plaitref05_Right_3 : List (ETag × Shape) := [(.ret, { sl := [(2, (.hole .bool))], bl := [], ts := [.bool], pin := 0 }), (.exit 0, { sl := [(0, (.hole (.slice (.pair (.int .i64) (.pair (.int .i64) (.int .i64))))))], bl := [], ts := [(.slice (.pair (.int .i64) (.pair (.int .i64) (.int .i64))))], pin := 0 })]
noncomputable def L_plaitref05_Right_3 (x : (List ((Int × (Int × Int))) × List ((Int × (Int × Int))) × Int × Int)) : Option ((List ((Int × (Int × Int))) × List ((Int × (Int × Int))) × Int × Int) ⊕ ((Bool) ⊕ (List ((Int × (Int × Int)))))) :=
  bif (decide (x.2.2.2 < x.2.2.1)) then
    bif (Go.Proofs.Ytegbkaaibgdheaa.VX.inb x.2.2.2 (List.length x.2.1)) then
      ((F_plaitref05_May (Go.Proofs.Ytegbkaaibgdheaa.VX.getAt ((0 : Int), ((0 : Int), (0 : Int))) x.2.1 (Go.Proofs.Ytegbkaaibgdheaa.VX.toN x.2.2.2)))).bind fun r8 =>
      bif (Bool.not r8) then
        some (.inr (.inl false))
      else
        bif (Go.Proofs.Ytegbkaaibgdheaa.VX.sub3 (0 : Int) x.2.2.2 (List.length x.1)) then
          ((F_plaitref05_Has ((Go.Proofs.Ytegbkaaibgdheaa.VX.cut x.1 (Go.Proofs.Ytegbkaaibgdheaa.VX.toN (0 : Int)) ((Go.Proofs.Ytegbkaaibgdheaa.VX.toN x.2.2.2) - (Go.Proofs.Ytegbkaaibgdheaa.VX.toN (0 : Int)))), ((Go.Proofs.Ytegbkaaibgdheaa.VX.getAt ((0 : Int), ((0 : Int), (0 : Int))) x.2.1 (Go.Proofs.Ytegbkaaibgdheaa.VX.toN x.2.2.2)).1, (Go.Proofs.Ytegbkaaibgdheaa.VX.getAt ((0 : Int), ((0 : Int), (0 : Int))) x.2.1 (Go.Proofs.Ytegbkaaibgdheaa.VX.toN x.2.2.2)).2.1)))).bind fun r9 =>
          bif r9 then
            some (.inr (.inl false))
          else
            some (.inl (x.1, (x.2.1, (x.2.2.1, (Go.IntKind.wrap Go.IntKind.i64 (x.2.2.2 + (1 : Int)))))))
        else
          none
    else
      none
  else
    some (.inr (.inr x.1))
noncomputable def cx_plaitref05_Right_3 : Ctx := { tb := mkTb T2.tbl, fx := [(44, [], Spec.shp si_plaitref05_May so_plaitref05_May F_plaitref05_May), (26, [], Spec.shp si_plaitref05_Has so_plaitref05_Has F_plaitref05_Has)], sum := [], nt := 29, pin := 0, nr := true, ys := [] }
theorem L_plaitref05_Right_3_ok : CSound Try.prog ⟨29, 0, true⟩ (.loop (loopOf 3 Try.f46)) (pieceSpec sh_plaitref05_Right_3 es_plaitref05_Right_3 (loop L_plaitref05_Right_3)) :=
  loop_sound (C := cx_plaitref05_Right_3) (ctxOK mixed tbl_ok rfl ⟨F_plaitref05_May_ok, F_plaitref05_Has_ok, trivial⟩ trivial) (SumOK.of trivial) sh_plaitref05_Right_3 es_plaitref05_Right_3 rfl rfl L_plaitref05_Right_3 (fun x => by kernel_rfl)
abbrev si_plaitref05_Right : Shape := { sl := [(0, (.hole (.slice (.pair (.int .i64) (.pair (.int .i64) (.int .i64))))))], bl := [], ts := [(.slice (.pair (.int .i64) (.pair (.int .i64) (.int .i64))))], pin := 0 }
abbrev so_plaitref05_Right : Shape := { sl := [(0, (.hole .bool))], bl := [], ts := [.bool], pin := 0 }
noncomputable def F_plaitref05_Right (x : (List ((Int × (Int × Int))))) : Option (Bool) :=
  ((loop L_plaitref05_Right_3 (x, (x, ((((List.length x) : Nat) : Int), (0 : Int)))))).bind fun r7 =>
  match r7 with
  | .inl y8 =>
    some y8
  | .inr y8 =>
    some (decide ((((List.length y8) : Nat) : Int) ≤ (64 : Int)))
noncomputable def cx_plaitref05_Right : Ctx := { tb := mkTb T2.tbl, fx := [(44, [], Spec.shp si_plaitref05_May so_plaitref05_May F_plaitref05_May), (26, [], Spec.shp si_plaitref05_Has so_plaitref05_Has F_plaitref05_Has)], sum := [(0, 3, pieceSpec sh_plaitref05_Right_3 es_plaitref05_Right_3 (loop L_plaitref05_Right_3))], nt := 29, pin := 0, nr := true, ys := [] }
theorem F_plaitref05_Right_ok : Sound Try.prog 46 (Spec.shp si_plaitref05_Right so_plaitref05_Right F_plaitref05_Right) :=
  Sound.shp (C := cx_plaitref05_Right) (fn := Try.f46) (by kernel_rfl) (c := bodyOf Try.f46) (by kernel_rfl) (by decide) (ctxOK mixed tbl_ok rfl ⟨F_plaitref05_May_ok, F_plaitref05_Has_ok, trivial⟩ trivial) (SumOK.of ⟨(pieces_one (d := .loop (loopOf 3 Try.f46)) (by kernel_rfl) L_plaitref05_Right_3_ok), trivial⟩) (by kernel_rfl) si_plaitref05_Right so_plaitref05_Right rfl (by decide) (by decide) rfl (by decide) rfl F_plaitref05_Right (fun x => by kernel_rfl)
abbrev si_plaitlaw05_alive : Shape := { sl := [], bl := [], ts := [], pin := 0 }
abbrev so_plaitlaw05_alive : Shape := { sl := [(0, (.hole .bool))], bl := [], ts := [.bool], pin := 0 }
noncomputable def F_plaitlaw05_alive (x : Unit) : Option (Bool) :=
  ((F_waits_First ((((2 : Int), ((0 : Int), (0 : Int))) :: (((1 : Int), ((0 : Int), (0 : Int))) :: (((2 : Int), ((1 : Int), (0 : Int))) :: ([] : List (Int × (Int × Int)))))), (2 : Int)))).bind fun r9 =>
  bif (r9.2 == (0 : Int)) then
    some (Go.Proofs.Ytegbkaaibgdheaa.VX.Ty.beq (@Go.Proofs.Ytegbkaaibgdheaa.VX.Ty.pair (@Go.Proofs.Ytegbkaaibgdheaa.VX.Ty.int Go.IntKind.i64) (@Go.Proofs.Ytegbkaaibgdheaa.VX.Ty.pair (@Go.Proofs.Ytegbkaaibgdheaa.VX.Ty.int Go.IntKind.i64) (@Go.Proofs.Ytegbkaaibgdheaa.VX.Ty.int Go.IntKind.i64))) r9.1 ((1 : Int), ((0 : Int), (0 : Int))))
  else
    some false
noncomputable def cx_plaitlaw05_alive : Ctx := { tb := mkTb T2.tbl, fx := [(28, [2000000], Spec.shp si_waits_First so_waits_First F_waits_First)], sum := [], nt := 18, pin := 0, nr := true, ys := [] }
theorem F_plaitlaw05_alive_ok : Sound Try.prog 29 (Spec.shp si_plaitlaw05_alive so_plaitlaw05_alive F_plaitlaw05_alive) :=
  Sound.shp (C := cx_plaitlaw05_alive) (fn := Try.f29) (by kernel_rfl) (c := bodyOf Try.f29) (by kernel_rfl) (by decide) (ctxOK mixed tbl_ok rfl ⟨F_waits_First_ok, trivial⟩ trivial) (SumOK.of trivial) (by kernel_rfl) si_plaitlaw05_alive so_plaitlaw05_alive rfl (by decide) (by decide) rfl (by decide) rfl F_plaitlaw05_alive (fun x => by kernel_rfl)
abbrev sh_plaitref05_Who_8 : Shape := { sl := [(0, (.hole (.slice (.pair (.int .i64) (.pair (.int .i64) (.int .i64)))))), (3, (.sl 1)), (5, (.ptr 0 [])), (6, (.hole .bool)), (10, (.hole (.slice (.pair (.int .i64) (.pair (.int .i64) (.int .i64)))))), (11, (.hole (.int .i64))), (12, (.hole (.int .i64))), (19, (.hole (.slice (.pair (.int .i64) (.pair (.int .i64) (.int .i64)))))), (20, (.hole (.int .i64))), (21, (.hole (.int .i64)))], bl := [.var (.hole (.pair (.int .i64) (.pair (.int .i64) (.int .i64)))), .row (.int .i64)], ts := [(.slice (.pair (.int .i64) (.pair (.int .i64) (.int .i64)))), .bool, (.slice (.pair (.int .i64) (.pair (.int .i64) (.int .i64)))), (.int .i64), (.int .i64), (.slice (.pair (.int .i64) (.pair (.int .i64) (.int .i64)))), (.int .i64), (.int .i64), (.pair (.int .i64) (.pair (.int .i64) (.int .i64))), (.slice (.int .i64))], pin := 0 }
abbrev es_plaitref05_Who_8 : List (ETag × Shape) := [(.exit 2, { sl := [(0, (.hole (.slice (.pair (.int .i64) (.pair (.int .i64) (.int .i64)))))), (3, (.sl 1)), (5, (.ptr 0 [])), (6, (.hole .bool)), (10, (.hole (.slice (.pair (.int .i64) (.pair (.int .i64) (.int .i64)))))), (11, (.hole (.int .i64))), (12, (.hole (.int .i64)))], bl := [.var (.hole (.pair (.int .i64) (.pair (.int .i64) (.int .i64)))), .row (.int .i64)], ts := [(.slice (.pair (.int .i64) (.pair (.int .i64) (.int .i64)))), .bool, (.slice (.pair (.int .i64) (.pair (.int .i64) (.int .i64)))), (.int .i64), (.int .i64), (.pair (.int .i64) (.pair (.int .i64) (.int .i64))), (.slice (.int .i64))], pin := 0 })]
noncomputable def L_plaitref05_Who_8 (x : (List ((Int × (Int × Int))) × Bool × List ((Int × (Int × Int))) × Int × Int × List ((Int × (Int × Int))) × Int × Int × (Int × (Int × Int)) × List (Int))) : Option ((List ((Int × (Int × Int))) × Bool × List ((Int × (Int × Int))) × Int × Int × List ((Int × (Int × Int))) × Int × Int × (Int × (Int × Int)) × List (Int)) ⊕ ((List ((Int × (Int × Int))) × Bool × List ((Int × (Int × Int))) × Int × Int × (Int × (Int × Int)) × List (Int)))) :=
  bif (decide (x.2.2.2.2.2.2.2.1 < x.2.2.2.2.2.2.1)) then
    bif (Go.Proofs.Ytegbkaaibgdheaa.VX.inb x.2.2.2.2.2.2.2.1 (List.length x.2.2.2.2.2.1)) then
      bif x.2.1 then
        some (.inl (x.1, (true, (x.2.2.1, (x.2.2.2.1, (x.2.2.2.2.1, (x.2.2.2.2.2.1, (x.2.2.2.2.2.2.1, ((Go.IntKind.wrap Go.IntKind.i64 (x.2.2.2.2.2.2.2.1 + (1 : Int))), (x.2.2.2.2.2.2.2.2.1, x.2.2.2.2.2.2.2.2.2))))))))))
      else
        some (.inl (x.1, (((Go.Proofs.Ytegbkaaibgdheaa.VX.getAt ((0 : Int), ((0 : Int), (0 : Int))) x.2.2.2.2.2.1 (Go.Proofs.Ytegbkaaibgdheaa.VX.toN x.2.2.2.2.2.2.2.1)).1 == x.2.2.2.2.2.2.2.2.1.1), (x.2.2.1, (x.2.2.2.1, (x.2.2.2.2.1, (x.2.2.2.2.2.1, (x.2.2.2.2.2.2.1, ((Go.IntKind.wrap Go.IntKind.i64 (x.2.2.2.2.2.2.2.1 + (1 : Int))), (x.2.2.2.2.2.2.2.2.1, x.2.2.2.2.2.2.2.2.2))))))))))
    else
      none
  else
    some (.inr (x.1, (x.2.1, (x.2.2.1, (x.2.2.2.1, (x.2.2.2.2.1, (x.2.2.2.2.2.2.2.2.1, x.2.2.2.2.2.2.2.2.2)))))))
noncomputable def cx_plaitref05_Who_8 : Ctx := { tb := mkTb T2.tbl, fx := [], sum := [], nt := 43, pin := 0, nr := true, ys := [] }
theorem L_plaitref05_Who_8_ok : CSound Try.prog ⟨43, 0, true⟩ (.loop (loopOf 8 Try.f48)) (pieceSpec sh_plaitref05_Who_8 es_plaitref05_Who_8 (loop L_plaitref05_Who_8)) :=
  loop_sound (C := cx_plaitref05_Who_8) (ctxOK mixed tbl_ok rfl trivial trivial) (SumOK.of trivial) sh_plaitref05_Who_8 es_plaitref05_Who_8 rfl rfl L_plaitref05_Who_8 (fun x => by kernel_rfl)
abbrev sh_plaitref05_Who_4 : Shape := { sl := [(0, (.hole (.slice (.pair (.int .i64) (.pair (.int .i64) (.int .i64)))))), (3, (.sl 0)), (10, (.hole (.slice (.pair (.int .i64) (.pair (.int .i64) (.int .i64)))))), (11, (.hole (.int .i64))), (12, (.hole (.int .i64)))], bl := [.row (.int .i64)], ts := [(.slice (.pair (.int .i64) (.pair (.int .i64) (.int .i64)))), (.slice (.pair (.int .i64) (.pair (.int .i64) (.int .i64)))), (.int .i64), (.int .i64), (.slice (.int .i64))], pin := 0 }
abbrev es_plaitref05_Who_4 : List (ETag × Shape) := [(.exit 0, { sl := [(3, (.sl 0))], bl := [.row (.int .i64)], ts := [(.slice (.int .i64))], pin := 0 })]
noncomputable def L_plaitref05_Who_4 (x : (List ((Int × (Int × Int))) × List ((Int × (Int × Int))) × Int × Int × List (Int))) : Option ((List ((Int × (Int × Int))) × List ((Int × (Int × Int))) × Int × Int × List (Int)) ⊕ ((List (Int)))) :=
  bif (decide (x.2.2.2.1 < x.2.2.1)) then
    bif (Go.Proofs.Ytegbkaaibgdheaa.VX.inb x.2.2.2.1 (List.length x.2.1)) then
      bif (Go.Proofs.Ytegbkaaibgdheaa.VX.sub3 (0 : Int) x.2.2.2.1 (List.length x.1)) then
        ((loop L_plaitref05_Who_8 (x.1, (false, (x.2.1, (x.2.2.1, (x.2.2.2.1, ((Go.Proofs.Ytegbkaaibgdheaa.VX.cut x.1 (Go.Proofs.Ytegbkaaibgdheaa.VX.toN (0 : Int)) ((Go.Proofs.Ytegbkaaibgdheaa.VX.toN x.2.2.2.1) - (Go.Proofs.Ytegbkaaibgdheaa.VX.toN (0 : Int)))), ((((List.length (Go.Proofs.Ytegbkaaibgdheaa.VX.cut x.1 (Go.Proofs.Ytegbkaaibgdheaa.VX.toN (0 : Int)) ((Go.Proofs.Ytegbkaaibgdheaa.VX.toN x.2.2.2.1) - (Go.Proofs.Ytegbkaaibgdheaa.VX.toN (0 : Int))))) : Nat) : Int), ((0 : Int), ((Go.Proofs.Ytegbkaaibgdheaa.VX.getAt ((0 : Int), ((0 : Int), (0 : Int))) x.2.1 (Go.Proofs.Ytegbkaaibgdheaa.VX.toN x.2.2.2.1)), x.2.2.2.2))))))))))).bind fun r11 =>
        bif (Bool.not r11.2.1) then
          bif (Go.Proofs.Ytegbkaaibgdheaa.VX.fits ((List.length r11.2.2.2.2.2.2) + (List.length (r11.2.2.2.2.2.1.1 :: ([] : List Int))))) then
            some (.inl (r11.1, (r11.2.2.1, (r11.2.2.2.1, ((Go.IntKind.wrap Go.IntKind.i64 (r11.2.2.2.2.1 + (1 : Int))), (r11.2.2.2.2.2.2 ++ (r11.2.2.2.2.2.1.1 :: ([] : List Int))))))))
          else
            none
        else
          some (.inl (r11.1, (r11.2.2.1, (r11.2.2.2.1, ((Go.IntKind.wrap Go.IntKind.i64 (r11.2.2.2.2.1 + (1 : Int))), r11.2.2.2.2.2.2)))))
      else
        none
    else
      none
  else
    some (.inr x.2.2.2.2)
noncomputable def cx_plaitref05_Who_4 : Ctx := { tb := mkTb T2.tbl, fx := [], sum := [(0, 8, pieceSpec sh_plaitref05_Who_8 es_plaitref05_Who_8 (loop L_plaitref05_Who_8))], nt := 43, pin := 0, nr := true, ys := [] }
theorem L_plaitref05_Who_4_ok : CSound Try.prog ⟨43, 0, true⟩ (.loop (loopOf 4 Try.f48)) (pieceSpec sh_plaitref05_Who_4 es_plaitref05_Who_4 (loop L_plaitref05_Who_4)) :=
  loop_sound (C := cx_plaitref05_Who_4) (ctxOK mixed tbl_ok rfl trivial trivial) (SumOK.of ⟨(pieces_one (d := .loop (loopOf 8 Try.f48)) (by kernel_rfl) L_plaitref05_Who_8_ok), trivial⟩) sh_plaitref05_Who_4 es_plaitref05_Who_4 rfl rfl L_plaitref05_Who_4 (fun x => by kernel_rfl)
abbrev si_plaitref05_Who : Shape := { sl := [(0, (.hole (.slice (.pair (.int .i64) (.pair (.int .i64) (.int .i64))))))], bl := [], ts := [(.slice (.pair (.int .i64) (.pair (.int .i64) (.int .i64))))], pin := 0 }
abbrev so_plaitref05_Who : Shape := { sl := [(0, (.hole (.slice (.int .i64))))], bl := [], ts := [(.slice (.int .i64))], pin := 0 }
noncomputable def F_plaitref05_Who (x : (List ((Int × (Int × Int))))) : Option (List (Int)) :=
  ((loop L_plaitref05_Who_4 (x, (x, ((((List.length x) : Nat) : Int), ((0 : Int), ([] : List Int))))))).bind fun r10 =>
  some r10
noncomputable def cx_plaitref05_Who : Ctx := { tb := mkTb T2.tbl, fx := [], sum := [(0, 8, pieceSpec sh_plaitref05_Who_8 es_plaitref05_Who_8 (loop L_plaitref05_Who_8)), (0, 4, pieceSpec sh_plaitref05_Who_4 es_plaitref05_Who_4 (loop L_plaitref05_Who_4))], nt := 43, pin := 0, nr := true, ys := [] }
theorem F_plaitref05_Who_ok : Sound Try.prog 48 (Spec.shp si_plaitref05_Who so_plaitref05_Who F_plaitref05_Who) :=
  Sound.shp (C := cx_plaitref05_Who) (fn := Try.f48) (by kernel_rfl) (c := bodyOf Try.f48) (by kernel_rfl) (by decide) (ctxOK mixed tbl_ok rfl trivial trivial) (SumOK.of ⟨(pieces_one (d := .loop (loopOf 8 Try.f48)) (by kernel_rfl) L_plaitref05_Who_8_ok), (pieces_one (d := .loop (loopOf 4 Try.f48)) (by kernel_rfl) L_plaitref05_Who_4_ok), trivial⟩) (by kernel_rfl) si_plaitref05_Who so_plaitref05_Who rfl (by decide) (by decide) rfl (by decide) rfl F_plaitref05_Who (fun x => by kernel_rfl)
abbrev sh_plaitref05_Drop_4 : Shape := { sl := [(1, (.hole (.int .i64))), (5, (.sl 0)), (9, (.hole (.slice (.pair (.int .i64) (.pair (.int .i64) (.int .i64)))))), (10, (.hole (.int .i64))), (11, (.hole (.int .i64)))], bl := [.row (.pair (.int .i64) (.pair (.int .i64) (.int .i64)))], ts := [(.int .i64), (.slice (.pair (.int .i64) (.pair (.int .i64) (.int .i64)))), (.int .i64), (.int .i64), (.slice (.pair (.int .i64) (.pair (.int .i64) (.int .i64))))], pin := 0 }
abbrev es_plaitref05_Drop_4 : List (ETag × Shape) := [(.exit 0, { sl := [(5, (.sl 0))], bl := [.row (.pair (.int .i64) (.pair (.int .i64) (.int .i64)))], ts := [(.slice (.pair (.int .i64) (.pair (.int .i64) (.int .i64))))], pin := 0 })]
noncomputable def L_plaitref05_Drop_4 (x : (Int × List ((Int × (Int × Int))) × Int × Int × List ((Int × (Int × Int))))) : Option ((Int × List ((Int × (Int × Int))) × Int × Int × List ((Int × (Int × Int)))) ⊕ ((List ((Int × (Int × Int)))))) :=
  bif (decide (x.2.2.2.1 < x.2.2.1)) then
    bif (Go.Proofs.Ytegbkaaibgdheaa.VX.inb x.2.2.2.1 (List.length x.2.1)) then
      bif ((Go.Proofs.Ytegbkaaibgdheaa.VX.getAt ((0 : Int), ((0 : Int), (0 : Int))) x.2.1 (Go.Proofs.Ytegbkaaibgdheaa.VX.toN x.2.2.2.1)).1 != x.1) then
        bif (Go.Proofs.Ytegbkaaibgdheaa.VX.fits ((List.length x.2.2.2.2) + (List.length ((Go.Proofs.Ytegbkaaibgdheaa.VX.getAt ((0 : Int), ((0 : Int), (0 : Int))) x.2.1 (Go.Proofs.Ytegbkaaibgdheaa.VX.toN x.2.2.2.1)) :: ([] : List (Int × (Int × Int))))))) then
          some (.inl (x.1, (x.2.1, (x.2.2.1, ((Go.IntKind.wrap Go.IntKind.i64 (x.2.2.2.1 + (1 : Int))), (x.2.2.2.2 ++ ((Go.Proofs.Ytegbkaaibgdheaa.VX.getAt ((0 : Int), ((0 : Int), (0 : Int))) x.2.1 (Go.Proofs.Ytegbkaaibgdheaa.VX.toN x.2.2.2.1)) :: ([] : List (Int × (Int × Int))))))))))
        else
          none
      else
        some (.inl (x.1, (x.2.1, (x.2.2.1, ((Go.IntKind.wrap Go.IntKind.i64 (x.2.2.2.1 + (1 : Int))), x.2.2.2.2)))))
    else
      none
  else
    some (.inr x.2.2.2.2)
noncomputable def cx_plaitref05_Drop_4 : Ctx := { tb := mkTb T2.tbl, fx := [], sum := [], nt := 25, pin := 0, nr := true, ys := [] }
theorem L_plaitref05_Drop_4_ok : CSound Try.prog ⟨25, 0, true⟩ (.loop (loopOf 4 Try.f24)) (pieceSpec sh_plaitref05_Drop_4 es_plaitref05_Drop_4 (loop L_plaitref05_Drop_4)) :=
  loop_sound (C := cx_plaitref05_Drop_4) (ctxOK mixed tbl_ok rfl trivial trivial) (SumOK.of trivial) sh_plaitref05_Drop_4 es_plaitref05_Drop_4 rfl rfl L_plaitref05_Drop_4 (fun x => by kernel_rfl)
abbrev si_plaitref05_Drop : Shape := { sl := [(0, (.hole (.slice (.pair (.int .i64) (.pair (.int .i64) (.int .i64)))))), (1, (.hole (.int .i64)))], bl := [], ts := [(.slice (.pair (.int .i64) (.pair (.int .i64) (.int .i64)))), (.int .i64)], pin := 0 }
abbrev so_plaitref05_Drop : Shape := { sl := [(0, (.sl 0))], bl := [.row (.pair (.int .i64) (.pair (.int .i64) (.int .i64)))], ts := [(.slice (.pair (.int .i64) (.pair (.int .i64) (.int .i64))))], pin := 0 }
noncomputable def F_plaitref05_Drop (x : (List ((Int × (Int × Int))) × Int)) : Option (List ((Int × (Int × Int)))) :=
  ((loop L_plaitref05_Drop_4 (x.2, (x.1, ((((List.length x.1) : Nat) : Int), ((0 : Int), ([] : List (Int × (Int × Int))))))))).bind fun r12 =>
  some r12
noncomputable def cx_plaitref05_Drop : Ctx := { tb := mkTb T2.tbl, fx := [], sum := [(0, 4, pieceSpec sh_plaitref05_Drop_4 es_plaitref05_Drop_4 (loop L_plaitref05_Drop_4))], nt := 25, pin := 0, nr := true, ys := [] }
theorem F_plaitref05_Drop_ok : Sound Try.prog 24 (Spec.shp si_plaitref05_Drop so_plaitref05_Drop F_plaitref05_Drop) :=
  Sound.shp (C := cx_plaitref05_Drop) (fn := Try.f24) (by kernel_rfl) (c := bodyOf Try.f24) (by kernel_rfl) (by decide) (ctxOK mixed tbl_ok rfl trivial trivial) (SumOK.of ⟨(pieces_one (d := .loop (loopOf 4 Try.f24)) (by kernel_rfl) L_plaitref05_Drop_4_ok), trivial⟩) (by kernel_rfl) si_plaitref05_Drop so_plaitref05_Drop rfl (by decide) (by decide) rfl (by decide) rfl F_plaitref05_Drop (fun x => by kernel_rfl)
abbrev sh_plaitref05_Same_lent1_5 : Shape := { sl := [(0, (.hole (.slice (.pair (.int .i64) (.pair (.int .i64) (.int .i64)))))), (1, (.sl 0)), (12, (.hole (.int .i64))), (13, (.hole (.int .i64)))], bl := [.row (.pair (.int .i64) (.pair (.int .i64) (.int .i64)))], ts := [(.slice (.pair (.int .i64) (.pair (.int .i64) (.int .i64)))), (.int .i64), (.int .i64), (.slice (.pair (.int .i64) (.pair (.int .i64) (.int .i64))))], pin := 1 }
abbrev es_plaitref05_Same_lent1_5 : List (ETag × Shape) := [(.ret, { sl := [(4, (.hole .bool))], bl := [.row (.pair (.int .i64) (.pair (.int .i64) (.int .i64)))], ts := [.bool, (.slice (.pair (.int .i64) (.pair (.int .i64) (.int .i64))))], pin := 1 }), (.exit 0, { sl := [], bl := [.row (.pair (.int .i64) (.pair (.int .i64) (.int .i64)))], ts := [(.slice (.pair (.int .i64) (.pair (.int .i64) (.int .i64))))], pin := 1 })]
noncomputable def L_plaitref05_Same_lent1_5 (x : (List ((Int × (Int × Int))) × Int × Int × List ((Int × (Int × Int))))) : Option ((List ((Int × (Int × Int))) × Int × Int × List ((Int × (Int × Int)))) ⊕ ((Bool × List ((Int × (Int × Int)))) ⊕ (List ((Int × (Int × Int)))))) :=
  bif (decide (x.2.2.1 < x.2.1)) then
    bif (Go.Proofs.Ytegbkaaibgdheaa.VX.inb x.2.2.1 (List.length x.1)) then
      bif (Go.Proofs.Ytegbkaaibgdheaa.VX.inb x.2.2.1 (List.length x.2.2.2)) then
        bif (Bool.not (Go.Proofs.Ytegbkaaibgdheaa.VX.Ty.beq (@Go.Proofs.Ytegbkaaibgdheaa.VX.Ty.pair (@Go.Proofs.Ytegbkaaibgdheaa.VX.Ty.int Go.IntKind.i64) (@Go.Proofs.Ytegbkaaibgdheaa.VX.Ty.pair (@Go.Proofs.Ytegbkaaibgdheaa.VX.Ty.int Go.IntKind.i64) (@Go.Proofs.Ytegbkaaibgdheaa.VX.Ty.int Go.IntKind.i64))) (Go.Proofs.Ytegbkaaibgdheaa.VX.getAt ((0 : Int), ((0 : Int), (0 : Int))) x.1 (Go.Proofs.Ytegbkaaibgdheaa.VX.toN x.2.2.1)) (Go.Proofs.Ytegbkaaibgdheaa.VX.getAt ((0 : Int), ((0 : Int), (0 : Int))) x.2.2.2 (Go.Proofs.Ytegbkaaibgdheaa.VX.toN x.2.2.1)))) then
          some (.inr (.inl (false, x.2.2.2)))
        else
          some (.inl (x.1, (x.2.1, ((Go.IntKind.wrap Go.IntKind.i64 (x.2.2.1 + (1 : Int))), x.2.2.2))))
      else
        none
    else
      none
  else
    some (.inr (.inr x.2.2.2))
noncomputable def cx_plaitref05_Same_lent1_5 : Ctx := { tb := mkTb T2.tbl, fx := [], sum := [], nt := 26, pin := 1, nr := true, ys := [] }
theorem L_plaitref05_Same_lent1_5_ok : CSound Try.prog ⟨26, 1, true⟩ (.loop (loopOf 5 Try.f27)) (pieceSpec sh_plaitref05_Same_lent1_5 es_plaitref05_Same_lent1_5 (loop L_plaitref05_Same_lent1_5)) :=
  loop_sound (C := cx_plaitref05_Same_lent1_5) (ctxOK mixed tbl_ok rfl trivial trivial) (SumOK.of trivial) sh_plaitref05_Same_lent1_5 es_plaitref05_Same_lent1_5 rfl rfl L_plaitref05_Same_lent1_5 (fun x => by kernel_rfl)
abbrev si_plaitref05_Same_lent1 : Shape := { sl := [(0, (.hole (.slice (.pair (.int .i64) (.pair (.int .i64) (.int .i64)))))), (1, (.sl 0))], bl := [.row (.pair (.int .i64) (.pair (.int .i64) (.int .i64)))], ts := [(.slice (.pair (.int .i64) (.pair (.int .i64) (.int .i64)))), (.slice (.pair (.int .i64) (.pair (.int .i64) (.int .i64))))], pin := 0 }
abbrev so_plaitref05_Same_lent1 : Shape := { sl := [(0, (.hole .bool))], bl := [.row (.pair (.int .i64) (.pair (.int .i64) (.int .i64)))], ts := [.bool, (.slice (.pair (.int .i64) (.pair (.int .i64) (.int .i64))))], pin := 1 }
noncomputable def F_plaitref05_Same_lent1 (x : (List ((Int × (Int × Int))) × List ((Int × (Int × Int))))) : Option (Bool × List ((Int × (Int × Int)))) :=
  bif ((((List.length x.1) : Nat) : Int) != (((List.length x.2) : Nat) : Int)) then
    some (false, x.2)
  else
    ((loop L_plaitref05_Same_lent1_5 (x.1, ((((List.length x.1) : Nat) : Int), ((0 : Int), x.2))))).bind fun r13 =>
    match r13 with
    | .inl y14 =>
      some (y14.1, y14.2)
    | .inr y14 =>
      some (true, y14)
noncomputable def cx_plaitref05_Same_lent1 : Ctx := { tb := mkTb T2.tbl, fx := [], sum := [(0, 5, pieceSpec sh_plaitref05_Same_lent1_5 es_plaitref05_Same_lent1_5 (loop L_plaitref05_Same_lent1_5))], nt := 26, pin := 1, nr := true, ys := [] }
theorem F_plaitref05_Same_lent1_ok : Sound Try.prog 27 (Spec.shp si_plaitref05_Same_lent1 so_plaitref05_Same_lent1 F_plaitref05_Same_lent1) :=
  Sound.shp (C := cx_plaitref05_Same_lent1) (fn := Try.f27) (by kernel_rfl) (c := bodyOf Try.f27) (by kernel_rfl) (by decide) (ctxOK mixed tbl_ok rfl trivial trivial) (SumOK.of ⟨(pieces_one (d := .loop (loopOf 5 Try.f27)) (by kernel_rfl) L_plaitref05_Same_lent1_5_ok), trivial⟩) (by kernel_rfl) si_plaitref05_Same_lent1 so_plaitref05_Same_lent1 rfl (by decide) (by decide) rfl (by decide) rfl F_plaitref05_Same_lent1 (fun x => by kernel_rfl)
abbrev sh_plaitref05_First_3 : Shape := { sl := [(1, (.hole (.int .i64))), (7, (.hole (.slice (.pair (.int .i64) (.pair (.int .i64) (.int .i64)))))), (8, (.hole (.int .i64))), (9, (.hole (.int .i64)))], bl := [], ts := [(.int .i64), (.slice (.pair (.int .i64) (.pair (.int .i64) (.int .i64)))), (.int .i64), (.int .i64)], pin := 0 }
abbrev es_plaitref05_First_3 : List (ETag × Shape) := [(.ret, { sl := [(4, (.hole (.int .i64)))], bl := [], ts := [(.int .i64)], pin := 0 }), (.exit 0, { sl := [], bl := [], ts := [], pin := 0 })]
noncomputable def L_plaitref05_First_3 (x : (Int × List ((Int × (Int × Int))) × Int × Int)) : Option ((Int × List ((Int × (Int × Int))) × Int × Int) ⊕ ((Int) ⊕ Unit)) :=
  bif (decide (x.2.2.2 < x.2.2.1)) then
    bif (Go.Proofs.Ytegbkaaibgdheaa.VX.inb x.2.2.2 (List.length x.2.1)) then
      bif ((Go.Proofs.Ytegbkaaibgdheaa.VX.getAt ((0 : Int), ((0 : Int), (0 : Int))) x.2.1 (Go.Proofs.Ytegbkaaibgdheaa.VX.toN x.2.2.2)).1 != x.1) then
        some (.inr (.inl x.2.2.2))
      else
        some (.inl (x.1, (x.2.1, (x.2.2.1, (Go.IntKind.wrap Go.IntKind.i64 (x.2.2.2 + (1 : Int)))))))
    else
      none
  else
    some (.inr (.inr ()))
noncomputable def cx_plaitref05_First_3 : Ctx := { tb := mkTb T2.tbl, fx := [], sum := [], nt := 20, pin := 0, nr := true, ys := [] }
theorem L_plaitref05_First_3_ok : CSound Try.prog ⟨20, 0, true⟩ (.loop (loopOf 3 Try.f49)) (pieceSpec sh_plaitref05_First_3 es_plaitref05_First_3 (loop L_plaitref05_First_3)) :=
  loop_sound (C := cx_plaitref05_First_3) (ctxOK mixed tbl_ok rfl trivial trivial) (SumOK.of trivial) sh_plaitref05_First_3 es_plaitref05_First_3 rfl rfl L_plaitref05_First_3 (fun x => by kernel_rfl)
abbrev si_plaitref05_First : Shape := { sl := [(0, (.hole (.slice (.pair (.int .i64) (.pair (.int .i64) (.int .i64)))))), (1, (.hole (.int .i64)))], bl := [], ts := [(.slice (.pair (.int .i64) (.pair (.int .i64) (.int .i64)))), (.int .i64)], pin := 0 }
abbrev so_plaitref05_First : Shape := { sl := [(0, (.hole (.int .i64)))], bl := [], ts := [(.int .i64)], pin := 0 }
noncomputable def F_plaitref05_First (x : (List ((Int × (Int × Int))) × Int)) : Option (Int) :=
  ((loop L_plaitref05_First_3 (x.2, (x.1, ((((List.length x.1) : Nat) : Int), (0 : Int)))))).bind fun r14 =>
  match r14 with
  | .inl y15 =>
    some y15
  | .inr y15 =>
    some (Int.negSucc 0)
noncomputable def cx_plaitref05_First : Ctx := { tb := mkTb T2.tbl, fx := [], sum := [(0, 3, pieceSpec sh_plaitref05_First_3 es_plaitref05_First_3 (loop L_plaitref05_First_3))], nt := 20, pin := 0, nr := true, ys := [] }
theorem F_plaitref05_First_ok : Sound Try.prog 49 (Spec.shp si_plaitref05_First so_plaitref05_First F_plaitref05_First) :=
  Sound.shp (C := cx_plaitref05_First) (fn := Try.f49) (by kernel_rfl) (c := bodyOf Try.f49) (by kernel_rfl) (by decide) (ctxOK mixed tbl_ok rfl trivial trivial) (SumOK.of ⟨(pieces_one (d := .loop (loopOf 3 Try.f49)) (by kernel_rfl) L_plaitref05_First_3_ok), trivial⟩) (by kernel_rfl) si_plaitref05_First so_plaitref05_First rfl (by decide) (by decide) rfl (by decide) rfl F_plaitref05_First (fun x => by kernel_rfl)
noncomputable def F_plaitlaw05_WaitsTell (x : (List ((Int × (Int × Int))) × (Int × (Int × Int)) × Int)) : Option (Bool) :=
  ((F_plaitlaw05_few x.1)).bind fun r1 =>
  ((F_waits_Push (r1, x.2.1))).bind fun r2 =>
  ((F_waits_First (r1, x.2.2))).bind fun r3 =>
  ((F_waits_Drop (r1, x.2.2))).bind fun r4 =>
  ((F_waits_Who r1)).bind fun r5 =>
  ((F_plaitref05_Right r1)).bind fun r6 =>
  ((F_waits_Right r1)).bind fun r7 =>
  bif (Bool.not (Go.Proofs.Ytegbkaaibgdheaa.VX.Ty.beq Go.Proofs.Ytegbkaaibgdheaa.VX.Ty.bool r7 r6)) then
    some false
  else
    ((F_plaitlaw05_alive ())).bind fun r8 =>
    bif (Bool.not r8) then
      some false
    else
      bif (Bool.not r6) then
        bif (r2.2 != (1 : Int)) then
          some false
        else
          bif ((((List.length r2.1) : Nat) : Int) != (0 : Int)) then
            some false
          else
            bif (Bool.not r6) then
              bif (r3.2 == (1 : Int)) then
                bif (r4.2 == (1 : Int)) then
                  bif (r5.2 == (1 : Int)) then
                    bif (Go.Proofs.Ytegbkaaibgdheaa.VX.Ty.beq (@Go.Proofs.Ytegbkaaibgdheaa.VX.Ty.pair (@Go.Proofs.Ytegbkaaibgdheaa.VX.Ty.int Go.IntKind.i64) (@Go.Proofs.Ytegbkaaibgdheaa.VX.Ty.pair (@Go.Proofs.Ytegbkaaibgdheaa.VX.Ty.int Go.IntKind.i64) (@Go.Proofs.Ytegbkaaibgdheaa.VX.Ty.int Go.IntKind.i64))) r3.1 ((0 : Int), ((0 : Int), (0 : Int)))) then
                      bif ((((List.length r4.1) : Nat) : Int) == (0 : Int)) then
                        some ((((List.length r5.1) : Nat) : Int) == (0 : Int))
                      else
                        some false
                    else
                      some false
                  else
                    some false
                else
                  some false
              else
                some false
            else
              bif (r5.2 != (0 : Int)) then
                some false
              else
                ((F_plaitref05_Who r1)).bind fun r9 =>
                ((F_plaitref01_Rows (r5.1, r9))).bind fun r10 =>
                bif (Bool.not r10) then
                  some false
                else
                  bif (decide (x.2.2 < (0 : Int))) then
                    bif (r3.2 == (1 : Int)) then
                      bif (r4.2 == (1 : Int)) then
                        bif (Go.Proofs.Ytegbkaaibgdheaa.VX.Ty.beq (@Go.Proofs.Ytegbkaaibgdheaa.VX.Ty.pair (@Go.Proofs.Ytegbkaaibgdheaa.VX.Ty.int Go.IntKind.i64) (@Go.Proofs.Ytegbkaaibgdheaa.VX.Ty.pair (@Go.Proofs.Ytegbkaaibgdheaa.VX.Ty.int Go.IntKind.i64) (@Go.Proofs.Ytegbkaaibgdheaa.VX.Ty.int Go.IntKind.i64))) r3.1 ((0 : Int), ((0 : Int), (0 : Int)))) then
                          some ((((List.length r4.1) : Nat) : Int) == (0 : Int))
                        else
                          some false
                      else
                        some false
                    else
                      some false
                  else
                    bif (r4.2 != (0 : Int)) then
                      some false
                    else
                      ((F_plaitref05_Drop (r1, x.2.2))).bind fun r11 =>
                      ((F_plaitref05_Same_lent1 (r4.1, r11))).bind fun r12 =>
                      bif (Bool.not r12.1) then
                        some false
                      else
                        ((F_plaitref05_First (r1, x.2.2))).bind fun r13 =>
                        bif (decide (r13 < (0 : Int))) then
                          bif (r3.2 == (4 : Int)) then
                            some (Go.Proofs.Ytegbkaaibgdheaa.VX.Ty.beq (@Go.Proofs.Ytegbkaaibgdheaa.VX.Ty.pair (@Go.Proofs.Ytegbkaaibgdheaa.VX.Ty.int Go.IntKind.i64) (@Go.Proofs.Ytegbkaaibgdheaa.VX.Ty.pair (@Go.Proofs.Ytegbkaaibgdheaa.VX.Ty.int Go.IntKind.i64) (@Go.Proofs.Ytegbkaaibgdheaa.VX.Ty.int Go.IntKind.i64))) r3.1 ((0 : Int), ((0 : Int), (0 : Int))))
                          else
                            some false
                        else
                          bif (r3.2 == (0 : Int)) then
                            bif (Go.Proofs.Ytegbkaaibgdheaa.VX.inb r13 (List.length r1)) then
                              some (Go.Proofs.Ytegbkaaibgdheaa.VX.Ty.beq (@Go.Proofs.Ytegbkaaibgdheaa.VX.Ty.pair (@Go.Proofs.Ytegbkaaibgdheaa.VX.Ty.int Go.IntKind.i64) (@Go.Proofs.Ytegbkaaibgdheaa.VX.Ty.pair (@Go.Proofs.Ytegbkaaibgdheaa.VX.Ty.int Go.IntKind.i64) (@Go.Proofs.Ytegbkaaibgdheaa.VX.Ty.int Go.IntKind.i64))) r3.1 (Go.Proofs.Ytegbkaaibgdheaa.VX.getAt ((0 : Int), ((0 : Int), (0 : Int))) r1 (Go.Proofs.Ytegbkaaibgdheaa.VX.toN r13)))
                            else
                              none
                          else
                            some false
      else
        ((F_plaitref05_May x.2.1)).bind fun r9 =>
        bif (Bool.not r9) then
          bif (r2.2 != (1 : Int)) then
            some false
          else
            bif ((((List.length r2.1) : Nat) : Int) != (0 : Int)) then
              some false
            else
              bif (Bool.not r6) then
                bif (r3.2 == (1 : Int)) then
                  bif (r4.2 == (1 : Int)) then
                    bif (r5.2 == (1 : Int)) then
                      bif (Go.Proofs.Ytegbkaaibgdheaa.VX.Ty.beq (@Go.Proofs.Ytegbkaaibgdheaa.VX.Ty.pair (@Go.Proofs.Ytegbkaaibgdheaa.VX.Ty.int Go.IntKind.i64) (@Go.Proofs.Ytegbkaaibgdheaa.VX.Ty.pair (@Go.Proofs.Ytegbkaaibgdheaa.VX.Ty.int Go.IntKind.i64) (@Go.Proofs.Ytegbkaaibgdheaa.VX.Ty.int Go.IntKind.i64))) r3.1 ((0 : Int), ((0 : Int), (0 : Int)))) then
                        bif ((((List.length r4.1) : Nat) : Int) == (0 : Int)) then
                          some ((((List.length r5.1) : Nat) : Int) == (0 : Int))
                        else
                          some false
                      else
                        some false
                    else
                      some false
                  else
                    some false
                else
                  some false
              else
                bif (r5.2 != (0 : Int)) then
                  some false
                else
                  ((F_plaitref05_Who r1)).bind fun r10 =>
                  ((F_plaitref01_Rows (r5.1, r10))).bind fun r11 =>
                  bif (Bool.not r11) then
                    some false
                  else
                    bif (decide (x.2.2 < (0 : Int))) then
                      bif (r3.2 == (1 : Int)) then
                        bif (r4.2 == (1 : Int)) then
                          bif (Go.Proofs.Ytegbkaaibgdheaa.VX.Ty.beq (@Go.Proofs.Ytegbkaaibgdheaa.VX.Ty.pair (@Go.Proofs.Ytegbkaaibgdheaa.VX.Ty.int Go.IntKind.i64) (@Go.Proofs.Ytegbkaaibgdheaa.VX.Ty.pair (@Go.Proofs.Ytegbkaaibgdheaa.VX.Ty.int Go.IntKind.i64) (@Go.Proofs.Ytegbkaaibgdheaa.VX.Ty.int Go.IntKind.i64))) r3.1 ((0 : Int), ((0 : Int), (0 : Int)))) then
                            some ((((List.length r4.1) : Nat) : Int) == (0 : Int))
                          else
                            some false
                        else
                          some false
                      else
                        some false
                    else
                      bif (r4.2 != (0 : Int)) then
                        some false
                      else
                        ((F_plaitref05_Drop (r1, x.2.2))).bind fun r12 =>
                        ((F_plaitref05_Same_lent1 (r4.1, r12))).bind fun r13 =>
                        bif (Bool.not r13.1) then
                          some false
                        else
                          ((F_plaitref05_First (r1, x.2.2))).bind fun r14 =>
                          bif (decide (r14 < (0 : Int))) then
                            bif (r3.2 == (4 : Int)) then
                              some (Go.Proofs.Ytegbkaaibgdheaa.VX.Ty.beq (@Go.Proofs.Ytegbkaaibgdheaa.VX.Ty.pair (@Go.Proofs.Ytegbkaaibgdheaa.VX.Ty.int Go.IntKind.i64) (@Go.Proofs.Ytegbkaaibgdheaa.VX.Ty.pair (@Go.Proofs.Ytegbkaaibgdheaa.VX.Ty.int Go.IntKind.i64) (@Go.Proofs.Ytegbkaaibgdheaa.VX.Ty.int Go.IntKind.i64))) r3.1 ((0 : Int), ((0 : Int), (0 : Int))))
                            else
                              some false
                          else
                            bif (r3.2 == (0 : Int)) then
                              bif (Go.Proofs.Ytegbkaaibgdheaa.VX.inb r14 (List.length r1)) then
                                some (Go.Proofs.Ytegbkaaibgdheaa.VX.Ty.beq (@Go.Proofs.Ytegbkaaibgdheaa.VX.Ty.pair (@Go.Proofs.Ytegbkaaibgdheaa.VX.Ty.int Go.IntKind.i64) (@Go.Proofs.Ytegbkaaibgdheaa.VX.Ty.pair (@Go.Proofs.Ytegbkaaibgdheaa.VX.Ty.int Go.IntKind.i64) (@Go.Proofs.Ytegbkaaibgdheaa.VX.Ty.int Go.IntKind.i64))) r3.1 (Go.Proofs.Ytegbkaaibgdheaa.VX.getAt ((0 : Int), ((0 : Int), (0 : Int))) r1 (Go.Proofs.Ytegbkaaibgdheaa.VX.toN r14)))
                              else
                                none
                            else
                              some false
        else
          ((F_plaitref05_Has (r1, (x.2.1.1, x.2.1.2.1)))).bind fun r10 =>
          bif r10 then
            bif (r2.2 != (7 : Int)) then
              some false
            else
              bif ((((List.length r2.1) : Nat) : Int) != (0 : Int)) then
                some false
              else
                bif (Bool.not r6) then
                  bif (r3.2 == (1 : Int)) then
                    bif (r4.2 == (1 : Int)) then
                      bif (r5.2 == (1 : Int)) then
                        bif (Go.Proofs.Ytegbkaaibgdheaa.VX.Ty.beq (@Go.Proofs.Ytegbkaaibgdheaa.VX.Ty.pair (@Go.Proofs.Ytegbkaaibgdheaa.VX.Ty.int Go.IntKind.i64) (@Go.Proofs.Ytegbkaaibgdheaa.VX.Ty.pair (@Go.Proofs.Ytegbkaaibgdheaa.VX.Ty.int Go.IntKind.i64) (@Go.Proofs.Ytegbkaaibgdheaa.VX.Ty.int Go.IntKind.i64))) r3.1 ((0 : Int), ((0 : Int), (0 : Int)))) then
                          bif ((((List.length r4.1) : Nat) : Int) == (0 : Int)) then
                            some ((((List.length r5.1) : Nat) : Int) == (0 : Int))
                          else
                            some false
                        else
                          some false
                      else
                        some false
                    else
                      some false
                  else
                    some false
                else
                  bif (r5.2 != (0 : Int)) then
                    some false
                  else
                    ((F_plaitref05_Who r1)).bind fun r11 =>
                    ((F_plaitref01_Rows (r5.1, r11))).bind fun r12 =>
                    bif (Bool.not r12) then
                      some false
                    else
                      bif (decide (x.2.2 < (0 : Int))) then
                        bif (r3.2 == (1 : Int)) then
                          bif (r4.2 == (1 : Int)) then
                            bif (Go.Proofs.Ytegbkaaibgdheaa.VX.Ty.beq (@Go.Proofs.Ytegbkaaibgdheaa.VX.Ty.pair (@Go.Proofs.Ytegbkaaibgdheaa.VX.Ty.int Go.IntKind.i64) (@Go.Proofs.Ytegbkaaibgdheaa.VX.Ty.pair (@Go.Proofs.Ytegbkaaibgdheaa.VX.Ty.int Go.IntKind.i64) (@Go.Proofs.Ytegbkaaibgdheaa.VX.Ty.int Go.IntKind.i64))) r3.1 ((0 : Int), ((0 : Int), (0 : Int)))) then
                              some ((((List.length r4.1) : Nat) : Int) == (0 : Int))
                            else
                              some false
                          else
                            some false
                        else
                          some false
                      else
                        bif (r4.2 != (0 : Int)) then
                          some false
                        else
                          ((F_plaitref05_Drop (r1, x.2.2))).bind fun r13 =>
                          ((F_plaitref05_Same_lent1 (r4.1, r13))).bind fun r14 =>
                          bif (Bool.not r14.1) then
                            some false
                          else
                            ((F_plaitref05_First (r1, x.2.2))).bind fun r15 =>
                            bif (decide (r15 < (0 : Int))) then
                              bif (r3.2 == (4 : Int)) then
                                some (Go.Proofs.Ytegbkaaibgdheaa.VX.Ty.beq (@Go.Proofs.Ytegbkaaibgdheaa.VX.Ty.pair (@Go.Proofs.Ytegbkaaibgdheaa.VX.Ty.int Go.IntKind.i64) (@Go.Proofs.Ytegbkaaibgdheaa.VX.Ty.pair (@Go.Proofs.Ytegbkaaibgdheaa.VX.Ty.int Go.IntKind.i64) (@Go.Proofs.Ytegbkaaibgdheaa.VX.Ty.int Go.IntKind.i64))) r3.1 ((0 : Int), ((0 : Int), (0 : Int))))
                              else
                                some false
                            else
                              bif (r3.2 == (0 : Int)) then
                                bif (Go.Proofs.Ytegbkaaibgdheaa.VX.inb r15 (List.length r1)) then
                                  some (Go.Proofs.Ytegbkaaibgdheaa.VX.Ty.beq (@Go.Proofs.Ytegbkaaibgdheaa.VX.Ty.pair (@Go.Proofs.Ytegbkaaibgdheaa.VX.Ty.int Go.IntKind.i64) (@Go.Proofs.Ytegbkaaibgdheaa.VX.Ty.pair (@Go.Proofs.Ytegbkaaibgdheaa.VX.Ty.int Go.IntKind.i64) (@Go.Proofs.Ytegbkaaibgdheaa.VX.Ty.int Go.IntKind.i64))) r3.1 (Go.Proofs.Ytegbkaaibgdheaa.VX.getAt ((0 : Int), ((0 : Int), (0 : Int))) r1 (Go.Proofs.Ytegbkaaibgdheaa.VX.toN r15)))
                                else
                                  none
                              else
                                some false
          else
            bif ((((List.length r1) : Nat) : Int) == (64 : Int)) then
              bif (r2.2 != (5 : Int)) then
                some false
              else
                bif ((((List.length r2.1) : Nat) : Int) != (0 : Int)) then
                  some false
                else
                  bif (Bool.not r6) then
                    bif (r3.2 == (1 : Int)) then
                      bif (r4.2 == (1 : Int)) then
                        bif (r5.2 == (1 : Int)) then
                          bif (Go.Proofs.Ytegbkaaibgdheaa.VX.Ty.beq (@Go.Proofs.Ytegbkaaibgdheaa.VX.Ty.pair (@Go.Proofs.Ytegbkaaibgdheaa.VX.Ty.int Go.IntKind.i64) (@Go.Proofs.Ytegbkaaibgdheaa.VX.Ty.pair (@Go.Proofs.Ytegbkaaibgdheaa.VX.Ty.int Go.IntKind.i64) (@Go.Proofs.Ytegbkaaibgdheaa.VX.Ty.int Go.IntKind.i64))) r3.1 ((0 : Int), ((0 : Int), (0 : Int)))) then
                            bif ((((List.length r4.1) : Nat) : Int) == (0 : Int)) then
                              some ((((List.length r5.1) : Nat) : Int) == (0 : Int))
                            else
                              some false
                          else
                            some false
                        else
                          some false
                      else
                        some false
                    else
                      some false
                  else
                    bif (r5.2 != (0 : Int)) then
                      some false
                    else
                      ((F_plaitref05_Who r1)).bind fun r11 =>
                      ((F_plaitref01_Rows (r5.1, r11))).bind fun r12 =>
                      bif (Bool.not r12) then
                        some false
                      else
                        bif (decide (x.2.2 < (0 : Int))) then
                          bif (r3.2 == (1 : Int)) then
                            bif (r4.2 == (1 : Int)) then
                              bif (Go.Proofs.Ytegbkaaibgdheaa.VX.Ty.beq (@Go.Proofs.Ytegbkaaibgdheaa.VX.Ty.pair (@Go.Proofs.Ytegbkaaibgdheaa.VX.Ty.int Go.IntKind.i64) (@Go.Proofs.Ytegbkaaibgdheaa.VX.Ty.pair (@Go.Proofs.Ytegbkaaibgdheaa.VX.Ty.int Go.IntKind.i64) (@Go.Proofs.Ytegbkaaibgdheaa.VX.Ty.int Go.IntKind.i64))) r3.1 ((0 : Int), ((0 : Int), (0 : Int)))) then
                                some ((((List.length r4.1) : Nat) : Int) == (0 : Int))
                              else
                                some false
                            else
                              some false
                          else
                            some false
                        else
                          bif (r4.2 != (0 : Int)) then
                            some false
                          else
                            ((F_plaitref05_Drop (r1, x.2.2))).bind fun r13 =>
                            ((F_plaitref05_Same_lent1 (r4.1, r13))).bind fun r14 =>
                            bif (Bool.not r14.1) then
                              some false
                            else
                              ((F_plaitref05_First (r1, x.2.2))).bind fun r15 =>
                              bif (decide (r15 < (0 : Int))) then
                                bif (r3.2 == (4 : Int)) then
                                  some (Go.Proofs.Ytegbkaaibgdheaa.VX.Ty.beq (@Go.Proofs.Ytegbkaaibgdheaa.VX.Ty.pair (@Go.Proofs.Ytegbkaaibgdheaa.VX.Ty.int Go.IntKind.i64) (@Go.Proofs.Ytegbkaaibgdheaa.VX.Ty.pair (@Go.Proofs.Ytegbkaaibgdheaa.VX.Ty.int Go.IntKind.i64) (@Go.Proofs.Ytegbkaaibgdheaa.VX.Ty.int Go.IntKind.i64))) r3.1 ((0 : Int), ((0 : Int), (0 : Int))))
                                else
                                  some false
                              else
                                bif (r3.2 == (0 : Int)) then
                                  bif (Go.Proofs.Ytegbkaaibgdheaa.VX.inb r15 (List.length r1)) then
                                    some (Go.Proofs.Ytegbkaaibgdheaa.VX.Ty.beq (@Go.Proofs.Ytegbkaaibgdheaa.VX.Ty.pair (@Go.Proofs.Ytegbkaaibgdheaa.VX.Ty.int Go.IntKind.i64) (@Go.Proofs.Ytegbkaaibgdheaa.VX.Ty.pair (@Go.Proofs.Ytegbkaaibgdheaa.VX.Ty.int Go.IntKind.i64) (@Go.Proofs.Ytegbkaaibgdheaa.VX.Ty.int Go.IntKind.i64))) r3.1 (Go.Proofs.Ytegbkaaibgdheaa.VX.getAt ((0 : Int), ((0 : Int), (0 : Int))) r1 (Go.Proofs.Ytegbkaaibgdheaa.VX.toN r15)))
                                  else
                                    none
                                else
                                  some false
            else
              bif (r2.2 != (0 : Int)) then
                some false
              else
                bif (Go.Proofs.Ytegbkaaibgdheaa.VX.fits ((List.length ([] : List (Int × (Int × Int)))) + (List.length r1))) then
                  bif (Go.Proofs.Ytegbkaaibgdheaa.VX.fits ((List.length (([] : List (Int × (Int × Int))) ++ r1)) + (List.length (x.2.1 :: ([] : List (Int × (Int × Int))))))) then
                    ((F_plaitref05_Same_lent1 (r2.1, ((([] : List (Int × (Int × Int))) ++ r1) ++ (x.2.1 :: ([] : List (Int × (Int × Int)))))))).bind fun r11 =>
                    bif (Bool.not r11.1) then
                      some false
                    else
                      bif (Bool.not r6) then
                        bif (r3.2 == (1 : Int)) then
                          bif (r4.2 == (1 : Int)) then
                            bif (r5.2 == (1 : Int)) then
                              bif (Go.Proofs.Ytegbkaaibgdheaa.VX.Ty.beq (@Go.Proofs.Ytegbkaaibgdheaa.VX.Ty.pair (@Go.Proofs.Ytegbkaaibgdheaa.VX.Ty.int Go.IntKind.i64) (@Go.Proofs.Ytegbkaaibgdheaa.VX.Ty.pair (@Go.Proofs.Ytegbkaaibgdheaa.VX.Ty.int Go.IntKind.i64) (@Go.Proofs.Ytegbkaaibgdheaa.VX.Ty.int Go.IntKind.i64))) r3.1 ((0 : Int), ((0 : Int), (0 : Int)))) then
                                bif ((((List.length r4.1) : Nat) : Int) == (0 : Int)) then
                                  some ((((List.length r5.1) : Nat) : Int) == (0 : Int))
                                else
                                  some false
                              else
                                some false
                            else
                              some false
                          else
                            some false
                        else
                          some false
                      else
                        bif (r5.2 != (0 : Int)) then
                          some false
                        else
                          ((F_plaitref05_Who r1)).bind fun r12 =>
                          ((F_plaitref01_Rows (r5.1, r12))).bind fun r13 =>
                          bif (Bool.not r13) then
                            some false
                          else
                            bif (decide (x.2.2 < (0 : Int))) then
                              bif (r3.2 == (1 : Int)) then
                                bif (r4.2 == (1 : Int)) then
                                  bif (Go.Proofs.Ytegbkaaibgdheaa.VX.Ty.beq (@Go.Proofs.Ytegbkaaibgdheaa.VX.Ty.pair (@Go.Proofs.Ytegbkaaibgdheaa.VX.Ty.int Go.IntKind.i64) (@Go.Proofs.Ytegbkaaibgdheaa.VX.Ty.pair (@Go.Proofs.Ytegbkaaibgdheaa.VX.Ty.int Go.IntKind.i64) (@Go.Proofs.Ytegbkaaibgdheaa.VX.Ty.int Go.IntKind.i64))) r3.1 ((0 : Int), ((0 : Int), (0 : Int)))) then
                                    some ((((List.length r4.1) : Nat) : Int) == (0 : Int))
                                  else
                                    some false
                                else
                                  some false
                              else
                                some false
                            else
                              bif (r4.2 != (0 : Int)) then
                                some false
                              else
                                ((F_plaitref05_Drop (r1, x.2.2))).bind fun r14 =>
                                ((F_plaitref05_Same_lent1 (r4.1, r14))).bind fun r15 =>
                                bif (Bool.not r15.1) then
                                  some false
                                else
                                  ((F_plaitref05_First (r1, x.2.2))).bind fun r16 =>
                                  bif (decide (r16 < (0 : Int))) then
                                    bif (r3.2 == (4 : Int)) then
                                      some (Go.Proofs.Ytegbkaaibgdheaa.VX.Ty.beq (@Go.Proofs.Ytegbkaaibgdheaa.VX.Ty.pair (@Go.Proofs.Ytegbkaaibgdheaa.VX.Ty.int Go.IntKind.i64) (@Go.Proofs.Ytegbkaaibgdheaa.VX.Ty.pair (@Go.Proofs.Ytegbkaaibgdheaa.VX.Ty.int Go.IntKind.i64) (@Go.Proofs.Ytegbkaaibgdheaa.VX.Ty.int Go.IntKind.i64))) r3.1 ((0 : Int), ((0 : Int), (0 : Int))))
                                    else
                                      some false
                                  else
                                    bif (r3.2 == (0 : Int)) then
                                      bif (Go.Proofs.Ytegbkaaibgdheaa.VX.inb r16 (List.length r1)) then
                                        some (Go.Proofs.Ytegbkaaibgdheaa.VX.Ty.beq (@Go.Proofs.Ytegbkaaibgdheaa.VX.Ty.pair (@Go.Proofs.Ytegbkaaibgdheaa.VX.Ty.int Go.IntKind.i64) (@Go.Proofs.Ytegbkaaibgdheaa.VX.Ty.pair (@Go.Proofs.Ytegbkaaibgdheaa.VX.Ty.int Go.IntKind.i64) (@Go.Proofs.Ytegbkaaibgdheaa.VX.Ty.int Go.IntKind.i64))) r3.1 (Go.Proofs.Ytegbkaaibgdheaa.VX.getAt ((0 : Int), ((0 : Int), (0 : Int))) r1 (Go.Proofs.Ytegbkaaibgdheaa.VX.toN r16)))
                                      else
                                        none
                                    else
                                      some false
                  else
                    none
                else
                  none
noncomputable def cx_plaitlaw05_WaitsTell : Ctx := { tb := mkTb T2.tbl, fx := [(33, [], Spec.shp si_plaitlaw05_few so_plaitlaw05_few F_plaitlaw05_few), (25, [], Spec.shp si_waits_Push so_waits_Push F_waits_Push), (28, [], Spec.shp si_waits_First so_waits_First F_waits_First), (23, [], Spec.shp si_waits_Drop so_waits_Drop F_waits_Drop), (34, [], Spec.shp si_waits_Who so_waits_Who F_waits_Who), (46, [], Spec.shp si_plaitref05_Right so_plaitref05_Right F_plaitref05_Right), (47, [], Spec.shp si_waits_Right so_waits_Right F_waits_Right), (29, [], Spec.shp si_plaitlaw05_alive so_plaitlaw05_alive F_plaitlaw05_alive), (48, [], Spec.shp si_plaitref05_Who so_plaitref05_Who F_plaitref05_Who), (17, [], Spec.shp si_plaitref01_Rows so_plaitref01_Rows F_plaitref01_Rows), (24, [], Spec.shp si_plaitref05_Drop so_plaitref05_Drop F_plaitref05_Drop), (27, [2000000], Spec.shp si_plaitref05_Same_lent1 so_plaitref05_Same_lent1 F_plaitref05_Same_lent1), (49, [], Spec.shp si_plaitref05_First so_plaitref05_First F_plaitref05_First), (44, [], Spec.shp si_plaitref05_May so_plaitref05_May F_plaitref05_May), (26, [], Spec.shp si_plaitref05_Has so_plaitref05_Has F_plaitref05_Has)], sum := [], nt := 192, pin := 0, nr := true, ys := [] }
theorem F_plaitlaw05_WaitsTell_ok : Sound Try.prog 10 (Spec.pure [(.slice (.pair (.int .i64) (.pair (.int .i64) (.int .i64)))), (.pair (.int .i64) (.pair (.int .i64) (.int .i64))), (.int .i64)] [.bool] F_plaitlaw05_WaitsTell) :=
  Sound.pure (C := cx_plaitlaw05_WaitsTell) (fn := Try.f10) (by kernel_rfl) (c := bodyOf Try.f10) (by kernel_rfl) (by decide) (ctxOK mixed tbl_ok rfl ⟨F_plaitlaw05_few_ok, F_waits_Push_ok, F_waits_First_ok, F_waits_Drop_ok, F_waits_Who_ok, F_plaitref05_Right_ok, F_waits_Right_ok, F_plaitlaw05_alive_ok, F_plaitref05_Who_ok, F_plaitref01_Rows_ok, F_plaitref05_Drop_ok, F_plaitref05_Same_lent1_ok, F_plaitref05_First_ok, F_plaitref05_May_ok, F_plaitref05_Has_ok, trivial⟩) (SumOK.of trivial) (by kernel_rfl) rfl _ _ (by decide) _ (fun x => by kernel_rfl)
abbrev si_plaitlaw10_few : Shape := { sl := [(0, (.hole (.pair .bool (.slice (.pair (.int .i64) (.pair (.int .i64) (.int .i64)))))))], bl := [], ts := [(.pair .bool (.slice (.pair (.int .i64) (.pair (.int .i64) (.int .i64)))))], pin := 0 }
abbrev so_plaitlaw10_few : Shape := { sl := [(0, (.hole (.pair .bool (.slice (.pair (.int .i64) (.pair (.int .i64) (.int .i64)))))))], bl := [], ts := [(.pair .bool (.slice (.pair (.int .i64) (.pair (.int .i64) (.int .i64)))))], pin := 0 }
noncomputable def F_plaitlaw10_few (x : ((Bool × List ((Int × (Int × Int)))))) : Option ((Bool × List ((Int × (Int × Int))))) :=
  bif (Go.Proofs.Ytegbkaaibgdheaa.VX.sub3 (0 : Int) (Min.min (((List.length x.2) : Nat) : Int) (70 : Int)) (List.length x.2)) then
    some (x.1, (Go.Proofs.Ytegbkaaibgdheaa.VX.cut x.2 (Go.Proofs.Ytegbkaaibgdheaa.VX.toN (0 : Int)) ((Go.Proofs.Ytegbkaaibgdheaa.VX.toN (Min.min (((List.length x.2) : Nat) : Int) (70 : Int))) - (Go.Proofs.Ytegbkaaibgdheaa.VX.toN (0 : Int)))))
  else
    none
noncomputable def cx_plaitlaw10_few : Ctx := { tb := mkTb T2.tbl, fx := [], sum := [], nt := 12, pin := 0, nr := true, ys := [] }
theorem F_plaitlaw10_few_ok : Sound Try.prog 35 (Spec.shp si_plaitlaw10_few so_plaitlaw10_few F_plaitlaw10_few) :=
  Sound.shp (C := cx_plaitlaw10_few) (fn := Try.f35) (by kernel_rfl) (c := bodyOf Try.f35) (by kernel_rfl) (by decide) (ctxOK mixed tbl_ok rfl trivial trivial) (SumOK.of trivial) (by kernel_rfl) si_plaitlaw10_few so_plaitlaw10_few rfl (by decide) (by decide) rfl (by decide) rfl F_plaitlaw10_few (fun x => by kernel_rfl)
abbrev si_locks_Right : Shape := { sl := [(0, (.hole (.pair .bool (.slice (.pair (.int .i64) (.pair (.int .i64) (.int .i64)))))))], bl := [], ts := [(.pair .bool (.slice (.pair (.int .i64) (.pair (.int .i64) (.int .i64)))))], pin := 0 }
abbrev so_locks_Right : Shape := { sl := [(0, (.hole .bool))], bl := [], ts := [.bool], pin := 0 }
noncomputable def F_locks_Right (x : ((Bool × List ((Int × (Int × Int)))))) : Option (Bool) :=
  ((F_waits_Right x.2)).bind fun r5 =>
  bif r5 then
    bif x.1 then
      some true
    else
      some ((((List.length x.2) : Nat) : Int) == (0 : Int))
  else
    some false
noncomputable def cx_locks_Right : Ctx := { tb := mkTb T2.tbl, fx := [(47, [], Spec.shp si_waits_Right so_waits_Right F_waits_Right)], sum := [], nt := 16, pin := 0, nr := true, ys := [] }
theorem F_locks_Right_ok : Sound Try.prog 40 (Spec.shp si_locks_Right so_locks_Right F_locks_Right) :=
  Sound.shp (C := cx_locks_Right) (fn := Try.f40) (by kernel_rfl) (c := bodyOf Try.f40) (by kernel_rfl) (by decide) (ctxOK mixed tbl_ok rfl ⟨F_waits_Right_ok, trivial⟩ trivial) (SumOK.of trivial) (by kernel_rfl) si_locks_Right so_locks_Right rfl (by decide) (by decide) rfl (by decide) rfl F_locks_Right (fun x => by kernel_rfl)
abbrev si_locks_held_lock : Shape := { sl := [(0, (.hole (.one (.slice (.pair (.int .i64) (.pair (.int .i64) (.int .i64)))))))], bl := [], ts := [(.one (.slice (.pair (.int .i64) (.pair (.int .i64) (.int .i64)))))], pin := 0 }
abbrev so_locks_held_lock : Shape := { sl := [(0, (.hole (.pair .bool (.slice (.pair (.int .i64) (.pair (.int .i64) (.int .i64)))))))], bl := [], ts := [(.pair .bool (.slice (.pair (.int .i64) (.pair (.int .i64) (.int .i64)))))], pin := 0 }
noncomputable def F_locks_held_lock (x : (List ((Int × (Int × Int))))) : Option ((Bool × List ((Int × (Int × Int))))) :=
  some (true, x)
noncomputable def cx_locks_held_lock : Ctx := { tb := mkTb T2.tbl, fx := [], sum := [], nt := 6, pin := 0, nr := true, ys := [] }
theorem F_locks_held_lock_ok : Sound Try.prog 69 (Spec.shp si_locks_held_lock so_locks_held_lock F_locks_held_lock) :=
  Sound.shp (C := cx_locks_held_lock) (fn := Try.f69) (by kernel_rfl) (c := bodyOf Try.f69) (by kernel_rfl) (by decide) (ctxOK mixed tbl_ok rfl trivial trivial) (SumOK.of trivial) (by kernel_rfl) si_locks_held_lock so_locks_held_lock rfl (by decide) (by decide) rfl (by decide) rfl F_locks_held_lock (fun x => by kernel_rfl)
abbrev si_locks_Take : Shape := { sl := [(0, (.hole (.pair .bool (.slice (.pair (.int .i64) (.pair (.int .i64) (.int .i64))))))), (1, (.hole (.pair (.int .i64) (.pair (.int .i64) (.int .i64)))))], bl := [], ts := [(.pair .bool (.slice (.pair (.int .i64) (.pair (.int .i64) (.int .i64))))), (.pair (.int .i64) (.pair (.int .i64) (.int .i64)))], pin := 0 }
abbrev so_locks_Take : Shape := { sl := [(0, (.hole (.pair .bool (.slice (.pair (.int .i64) (.pair (.int .i64) (.int .i64))))))), (1, (.hole .bool)), (2, (.hole (.int .i64)))], bl := [], ts := [(.pair .bool (.slice (.pair (.int .i64) (.pair (.int .i64) (.int .i64))))), .bool, (.int .i64)], pin := 0 }
noncomputable def F_locks_Take (x : ((Bool × List ((Int × (Int × Int)))) × (Int × (Int × Int)))) : Option ((Bool × List ((Int × (Int × Int)))) × Bool × Int) :=
  ((F_waits_Push (x.1.2, x.2))).bind fun r3 =>
  ((F_locks_Right x.1)).bind fun r4 =>
  bif (Bool.not r4) then
    some ((false, ([] : List (Int × (Int × Int)))), (false, (1 : Int)))
  else
    bif (r3.2 == (1 : Int)) then
      some ((false, ([] : List (Int × (Int × Int)))), (false, (1 : Int)))
    else
      bif (Bool.not x.1.1) then
        ((F_locks_held_lock ([] : List (Int × (Int × Int))))).bind fun r5 =>
        some (r5, (true, (0 : Int)))
      else
        bif (r3.2 != (0 : Int)) then
          some ((false, ([] : List (Int × (Int × Int)))), (false, r3.2))
        else
          ((F_locks_held_lock r3.1)).bind fun r5 =>
          some (r5, (false, (0 : Int)))
noncomputable def cx_locks_Take : Ctx := { tb := mkTb T2.tbl, fx := [(25, [], Spec.shp si_waits_Push so_waits_Push F_waits_Push), (40, [], Spec.shp si_locks_Right so_locks_Right F_locks_Right), (69, [], Spec.shp si_locks_held_lock so_locks_held_lock F_locks_held_lock)], sum := [], nt := 39, pin := 0, nr := true, ys := [] }
theorem F_locks_Take_ok : Sound Try.prog 36 (Spec.shp si_locks_Take so_locks_Take F_locks_Take) :=
  Sound.shp (C := cx_locks_Take) (fn := Try.f36) (by kernel_rfl) (c := bodyOf Try.f36) (by kernel_rfl) (by decide) (ctxOK mixed tbl_ok rfl ⟨F_waits_Push_ok, F_locks_Right_ok, F_locks_held_lock_ok, trivial⟩ trivial) (SumOK.of trivial) (by kernel_rfl) si_locks_Take so_locks_Take rfl (by decide) (by decide) rfl (by decide) rfl F_locks_Take (fun x => by kernel_rfl)
abbrev si_locks_Give : Shape := { sl := [(0, (.hole (.pair .bool (.slice (.pair (.int .i64) (.pair (.int .i64) (.int .i64)))))))], bl := [], ts := [(.pair .bool (.slice (.pair (.int .i64) (.pair (.int .i64) (.int .i64)))))], pin := 0 }
abbrev so_locks_Give : Shape := { sl := [(0, (.hole (.pair .bool (.slice (.pair (.int .i64) (.pair (.int .i64) (.int .i64))))))), (1, (.hole (.pair (.int .i64) (.pair (.int .i64) (.int .i64))))), (2, (.hole .bool)), (3, (.hole (.int .i64)))], bl := [], ts := [(.pair .bool (.slice (.pair (.int .i64) (.pair (.int .i64) (.int .i64))))), (.pair (.int .i64) (.pair (.int .i64) (.int .i64))), .bool, (.int .i64)], pin := 0 }
noncomputable def F_locks_Give (x : ((Bool × List ((Int × (Int × Int)))))) : Option ((Bool × List ((Int × (Int × Int)))) × (Int × (Int × Int)) × Bool × Int) :=
  ((F_locks_Right x)).bind fun r4 =>
  bif (Bool.not r4) then
    some ((false, ([] : List (Int × (Int × Int)))), (((0 : Int), ((0 : Int), (0 : Int))), (false, (1 : Int))))
  else
    bif (Bool.not x.1) then
      some ((false, ([] : List (Int × (Int × Int)))), (((0 : Int), ((0 : Int), (0 : Int))), (false, (6 : Int))))
    else
      bif ((((List.length x.2) : Nat) : Int) == (0 : Int)) then
        some ((false, ([] : List (Int × (Int × Int)))), (((0 : Int), ((0 : Int), (0 : Int))), (false, (0 : Int))))
      else
        bif (Go.Proofs.Ytegbkaaibgdheaa.VX.sub3 (1 : Int) (((List.length x.2) : Nat) : Int) (List.length x.2)) then
          ((F_locks_held_lock (Go.Proofs.Ytegbkaaibgdheaa.VX.cut x.2 (Go.Proofs.Ytegbkaaibgdheaa.VX.toN (1 : Int)) ((Go.Proofs.Ytegbkaaibgdheaa.VX.toN (((List.length x.2) : Nat) : Int)) - (Go.Proofs.Ytegbkaaibgdheaa.VX.toN (1 : Int)))))).bind fun r5 =>
          bif (Go.Proofs.Ytegbkaaibgdheaa.VX.inb (0 : Int) (List.length x.2)) then
            some (r5, ((Go.Proofs.Ytegbkaaibgdheaa.VX.getAt ((0 : Int), ((0 : Int), (0 : Int))) x.2 (Go.Proofs.Ytegbkaaibgdheaa.VX.toN (0 : Int))), (true, (0 : Int))))
          else
            none
        else
          none
noncomputable def cx_locks_Give : Ctx := { tb := mkTb T2.tbl, fx := [(40, [], Spec.shp si_locks_Right so_locks_Right F_locks_Right), (69, [], Spec.shp si_locks_held_lock so_locks_held_lock F_locks_held_lock)], sum := [], nt := 34, pin := 0, nr := true, ys := [] }
theorem F_locks_Give_ok : Sound Try.prog 37 (Spec.shp si_locks_Give so_locks_Give F_locks_Give) :=
  Sound.shp (C := cx_locks_Give) (fn := Try.f37) (by kernel_rfl) (c := bodyOf Try.f37) (by kernel_rfl) (by decide) (ctxOK mixed tbl_ok rfl ⟨F_locks_Right_ok, F_locks_held_lock_ok, trivial⟩ trivial) (SumOK.of trivial) (by kernel_rfl) si_locks_Give so_locks_Give rfl (by decide) (by decide) rfl (by decide) rfl F_locks_Give (fun x => by kernel_rfl)
abbrev si_locks_Waiting : Shape := { sl := [(0, (.hole (.pair .bool (.slice (.pair (.int .i64) (.pair (.int .i64) (.int .i64)))))))], bl := [], ts := [(.pair .bool (.slice (.pair (.int .i64) (.pair (.int .i64) (.int .i64)))))], pin := 0 }
abbrev so_locks_Waiting : Shape := { sl := [(0, (.hole (.int .i64))), (1, (.hole (.int .i64)))], bl := [], ts := [(.int .i64), (.int .i64)], pin := 0 }
noncomputable def F_locks_Waiting (x : ((Bool × List ((Int × (Int × Int)))))) : Option (Int × Int) :=
  ((F_locks_Right x)).bind fun r5 =>
  bif (Bool.not r5) then
    some ((0 : Int), (1 : Int))
  else
    some ((((List.length x.2) : Nat) : Int), (0 : Int))
noncomputable def cx_locks_Waiting : Ctx := { tb := mkTb T2.tbl, fx := [(40, [], Spec.shp si_locks_Right so_locks_Right F_locks_Right)], sum := [], nt := 10, pin := 0, nr := true, ys := [] }
theorem F_locks_Waiting_ok : Sound Try.prog 38 (Spec.shp si_locks_Waiting so_locks_Waiting F_locks_Waiting) :=
  Sound.shp (C := cx_locks_Waiting) (fn := Try.f38) (by kernel_rfl) (c := bodyOf Try.f38) (by kernel_rfl) (by decide) (ctxOK mixed tbl_ok rfl ⟨F_locks_Right_ok, trivial⟩ trivial) (SumOK.of trivial) (by kernel_rfl) si_locks_Waiting so_locks_Waiting rfl (by decide) (by decide) rfl (by decide) rfl F_locks_Waiting (fun x => by kernel_rfl)
abbrev si_plaitref10_Right : Shape := { sl := [(0, (.hole (.pair .bool (.slice (.pair (.int .i64) (.pair (.int .i64) (.int .i64)))))))], bl := [], ts := [(.pair .bool (.slice (.pair (.int .i64) (.pair (.int .i64) (.int .i64)))))], pin := 0 }
abbrev so_plaitref10_Right : Shape := { sl := [(0, (.hole .bool))], bl := [], ts := [.bool], pin := 0 }
noncomputable def F_plaitref10_Right (x : ((Bool × List ((Int × (Int × Int)))))) : Option (Bool) :=
  ((F_plaitref05_Right x.2)).bind fun r6 =>
  bif r6 then
    bif x.1 then
      some true
    else
      some ((((List.length x.2) : Nat) : Int) == (0 : Int))
  else
    some false
noncomputable def cx_plaitref10_Right : Ctx := { tb := mkTb T2.tbl, fx := [(46, [], Spec.shp si_plaitref05_Right so_plaitref05_Right F_plaitref05_Right)], sum := [], nt := 16, pin := 0, nr := true, ys := [] }
theorem F_plaitref10_Right_ok : Sound Try.prog 39 (Spec.shp si_plaitref10_Right so_plaitref10_Right F_plaitref10_Right) :=
  Sound.shp (C := cx_plaitref10_Right) (fn := Try.f39) (by kernel_rfl) (c := bodyOf Try.f39) (by kernel_rfl) (by decide) (ctxOK mixed tbl_ok rfl ⟨F_plaitref05_Right_ok, trivial⟩ trivial) (SumOK.of trivial) (by kernel_rfl) si_plaitref10_Right so_plaitref10_Right rfl (by decide) (by decide) rfl (by decide) rfl F_plaitref10_Right (fun x => by kernel_rfl)
abbrev si_plaitlaw10_alive : Shape := { sl := [], bl := [], ts := [], pin := 0 }
abbrev so_plaitlaw10_alive : Shape := { sl := [(0, (.hole .bool))], bl := [], ts := [.bool], pin := 0 }
noncomputable def F_plaitlaw10_alive (x : Unit) : Option (Bool) :=
  ((F_locks_Take ((false, ([] : List (Int × (Int × Int)))), ((1 : Int), ((0 : Int), (0 : Int)))))).bind fun r8 =>
  ((F_locks_Take (r8.1, ((2 : Int), ((0 : Int), (0 : Int)))))).bind fun r9 =>
  ((F_locks_Give r9.1)).bind fun r10 =>
  bif (r8.2.2 == (0 : Int)) then
    bif (r9.2.2 == (0 : Int)) then
      bif (r10.2.2.2 == (0 : Int)) then
        bif r8.2.1 then
          bif (Bool.not r9.2.1) then
            bif r10.2.2.1 then
              bif (r10.2.1.1 == (2 : Int)) then
                some r10.1.1
              else
                some false
            else
              some false
          else
            some false
        else
          some false
      else
        some false
    else
      some false
  else
    some false
noncomputable def cx_plaitlaw10_alive : Ctx := { tb := mkTb T2.tbl, fx := [(36, [], Spec.shp si_locks_Take so_locks_Take F_locks_Take), (37, [], Spec.shp si_locks_Give so_locks_Give F_locks_Give)], sum := [], nt := 59, pin := 0, nr := true, ys := [] }
theorem F_plaitlaw10_alive_ok : Sound Try.prog 41 (Spec.shp si_plaitlaw10_alive so_plaitlaw10_alive F_plaitlaw10_alive) :=
  Sound.shp (C := cx_plaitlaw10_alive) (fn := Try.f41) (by kernel_rfl) (c := bodyOf Try.f41) (by kernel_rfl) (by decide) (ctxOK mixed tbl_ok rfl ⟨F_locks_Take_ok, F_locks_Give_ok, trivial⟩ trivial) (SumOK.of trivial) (by kernel_rfl) si_plaitlaw10_alive so_plaitlaw10_alive rfl (by decide) (by decide) rfl (by decide) rfl F_plaitlaw10_alive (fun x => by kernel_rfl)
abbrev sh_plaitref05_Same_5 : Shape := { sl := [(0, (.hole (.slice (.pair (.int .i64) (.pair (.int .i64) (.int .i64)))))), (1, (.hole (.slice (.pair (.int .i64) (.pair (.int .i64) (.int .i64)))))), (12, (.hole (.int .i64))), (13, (.hole (.int .i64)))], bl := [], ts := [(.slice (.pair (.int .i64) (.pair (.int .i64) (.int .i64)))), (.slice (.pair (.int .i64) (.pair (.int .i64) (.int .i64)))), (.int .i64), (.int .i64)], pin := 0 }
abbrev es_plaitref05_Same_5 : List (ETag × Shape) := [(.ret, { sl := [(4, (.hole .bool))], bl := [], ts := [.bool], pin := 0 }), (.exit 0, { sl := [], bl := [], ts := [], pin := 0 })]
noncomputable def L_plaitref05_Same_5 (x : (List ((Int × (Int × Int))) × List ((Int × (Int × Int))) × Int × Int)) : Option ((List ((Int × (Int × Int))) × List ((Int × (Int × Int))) × Int × Int) ⊕ ((Bool) ⊕ Unit)) :=
  bif (decide (x.2.2.2 < x.2.2.1)) then
    bif (Go.Proofs.Ytegbkaaibgdheaa.VX.inb x.2.2.2 (List.length x.1)) then
      bif (Go.Proofs.Ytegbkaaibgdheaa.VX.inb x.2.2.2 (List.length x.2.1)) then
        bif (Bool.not (Go.Proofs.Ytegbkaaibgdheaa.VX.Ty.beq (@Go.Proofs.Ytegbkaaibgdheaa.VX.Ty.pair (@Go.Proofs.Ytegbkaaibgdheaa.VX.Ty.int Go.IntKind.i64) (@Go.Proofs.Ytegbkaaibgdheaa.VX.Ty.pair (@Go.Proofs.Ytegbkaaibgdheaa.VX.Ty.int Go.IntKind.i64) (@Go.Proofs.Ytegbkaaibgdheaa.VX.Ty.int Go.IntKind.i64))) (Go.Proofs.Ytegbkaaibgdheaa.VX.getAt ((0 : Int), ((0 : Int), (0 : Int))) x.1 (Go.Proofs.Ytegbkaaibgdheaa.VX.toN x.2.2.2)) (Go.Proofs.Ytegbkaaibgdheaa.VX.getAt ((0 : Int), ((0 : Int), (0 : Int))) x.2.1 (Go.Proofs.Ytegbkaaibgdheaa.VX.toN x.2.2.2)))) then
          some (.inr (.inl false))
        else
          some (.inl (x.1, (x.2.1, (x.2.2.1, (Go.IntKind.wrap Go.IntKind.i64 (x.2.2.2 + (1 : Int)))))))
      else
        none
    else
      none
  else
    some (.inr (.inr ()))
noncomputable def cx_plaitref05_Same_5 : Ctx := { tb := mkTb T2.tbl, fx := [], sum := [], nt := 26, pin := 0, nr := true, ys := [] }
theorem L_plaitref05_Same_5_ok : CSound Try.prog ⟨26, 0, true⟩ (.loop (loopOf 5 Try.f27)) (pieceSpec sh_plaitref05_Same_5 es_plaitref05_Same_5 (loop L_plaitref05_Same_5)) :=
  loop_sound (C := cx_plaitref05_Same_5) (ctxOK mixed tbl_ok rfl trivial trivial) (SumOK.of trivial) sh_plaitref05_Same_5 es_plaitref05_Same_5 rfl rfl L_plaitref05_Same_5 (fun x => by kernel_rfl)
abbrev si_plaitref05_Same : Shape := { sl := [(0, (.hole (.slice (.pair (.int .i64) (.pair (.int .i64) (.int .i64)))))), (1, (.hole (.slice (.pair (.int .i64) (.pair (.int .i64) (.int .i64))))))], bl := [], ts := [(.slice (.pair (.int .i64) (.pair (.int .i64) (.int .i64)))), (.slice (.pair (.int .i64) (.pair (.int .i64) (.int .i64))))], pin := 0 }
abbrev so_plaitref05_Same : Shape := { sl := [(0, (.hole .bool))], bl := [], ts := [.bool], pin := 0 }
noncomputable def F_plaitref05_Same (x : (List ((Int × (Int × Int))) × List ((Int × (Int × Int))))) : Option (Bool) :=
  bif ((((List.length x.1) : Nat) : Int) != (((List.length x.2) : Nat) : Int)) then
    some false
  else
    ((loop L_plaitref05_Same_5 (x.1, (x.2, ((((List.length x.1) : Nat) : Int), (0 : Int)))))).bind fun r10 =>
    match r10 with
    | .inl y11 =>
      some y11
    | .inr y11 =>
      some true
noncomputable def cx_plaitref05_Same : Ctx := { tb := mkTb T2.tbl, fx := [], sum := [(0, 5, pieceSpec sh_plaitref05_Same_5 es_plaitref05_Same_5 (loop L_plaitref05_Same_5))], nt := 26, pin := 0, nr := true, ys := [] }
theorem F_plaitref05_Same_ok : Sound Try.prog 27 (Spec.shp si_plaitref05_Same so_plaitref05_Same F_plaitref05_Same) :=
  Sound.shp (C := cx_plaitref05_Same) (fn := Try.f27) (by kernel_rfl) (c := bodyOf Try.f27) (by kernel_rfl) (by decide) (ctxOK mixed tbl_ok rfl trivial trivial) (SumOK.of ⟨(pieces_one (d := .loop (loopOf 5 Try.f27)) (by kernel_rfl) L_plaitref05_Same_5_ok), trivial⟩) (by kernel_rfl) si_plaitref05_Same so_plaitref05_Same rfl (by decide) (by decide) rfl (by decide) rfl F_plaitref05_Same (fun x => by kernel_rfl)
abbrev si_plaitref10_Same : Shape := { sl := [(0, (.hole (.pair .bool (.slice (.pair (.int .i64) (.pair (.int .i64) (.int .i64))))))), (1, (.hole (.pair .bool (.slice (.pair (.int .i64) (.pair (.int .i64) (.int .i64)))))))], bl := [], ts := [(.pair .bool (.slice (.pair (.int .i64) (.pair (.int .i64) (.int .i64))))), (.pair .bool (.slice (.pair (.int .i64) (.pair (.int .i64) (.int .i64)))))], pin := 0 }
abbrev so_plaitref10_Same : Shape := { sl := [(0, (.hole .bool))], bl := [], ts := [.bool], pin := 0 }
noncomputable def F_plaitref10_Same (x : ((Bool × List ((Int × (Int × Int)))) × (Bool × List ((Int × (Int × Int)))))) : Option (Bool) :=
  bif (Go.Proofs.Ytegbkaaibgdheaa.VX.Ty.beq Go.Proofs.Ytegbkaaibgdheaa.VX.Ty.bool x.1.1 x.2.1) then
    ((F_plaitref05_Same (x.1.2, x.2.2))).bind fun r9 =>
    some r9
  else
    some false
noncomputable def cx_plaitref10_Same : Ctx := { tb := mkTb T2.tbl, fx := [(27, [], Spec.shp si_plaitref05_Same so_plaitref05_Same F_plaitref05_Same)], sum := [], nt := 17, pin := 0, nr := true, ys := [] }
theorem F_plaitref10_Same_ok : Sound Try.prog 42 (Spec.shp si_plaitref10_Same so_plaitref10_Same F_plaitref10_Same) :=
  Sound.shp (C := cx_plaitref10_Same) (fn := Try.f42) (by kernel_rfl) (c := bodyOf Try.f42) (by kernel_rfl) (by decide) (ctxOK mixed tbl_ok rfl ⟨F_plaitref05_Same_ok, trivial⟩ trivial) (SumOK.of trivial) (by kernel_rfl) si_plaitref10_Same so_plaitref10_Same rfl (by decide) (by decide) rfl (by decide) rfl F_plaitref10_Same (fun x => by kernel_rfl)
abbrev si_plaitref10_Take : Shape := { sl := [(0, (.hole (.pair .bool (.slice (.pair (.int .i64) (.pair (.int .i64) (.int .i64))))))), (1, (.hole (.pair (.int .i64) (.pair (.int .i64) (.int .i64)))))], bl := [], ts := [(.pair .bool (.slice (.pair (.int .i64) (.pair (.int .i64) (.int .i64))))), (.pair (.int .i64) (.pair (.int .i64) (.int .i64)))], pin := 0 }
abbrev so_plaitref10_Take : Shape := { sl := [(0, (.hole (.pair .bool (.slice (.pair (.int .i64) (.pair (.int .i64) (.int .i64))))))), (1, (.hole .bool)), (2, (.hole (.int .i64)))], bl := [], ts := [(.pair .bool (.slice (.pair (.int .i64) (.pair (.int .i64) (.int .i64))))), .bool, (.int .i64)], pin := 0 }
noncomputable def F_plaitref10_Take (x : ((Bool × List ((Int × (Int × Int)))) × (Int × (Int × Int)))) : Option ((Bool × List ((Int × (Int × Int)))) × Bool × Int) :=
  bif (Bool.not x.1.1) then
    some ((true, ([] : List (Int × (Int × Int)))), (true, (0 : Int)))
  else
    ((F_plaitref05_Has (x.1.2, (x.2.1, x.2.2.1)))).bind fun r11 =>
    bif r11 then
      some ((false, ([] : List (Int × (Int × Int)))), (false, (7 : Int)))
    else
      bif ((((List.length x.1.2) : Nat) : Int) == (64 : Int)) then
        some ((false, ([] : List (Int × (Int × Int)))), (false, (5 : Int)))
      else
        bif (Go.Proofs.Ytegbkaaibgdheaa.VX.fits ((List.length ([] : List (Int × (Int × Int)))) + (List.length x.1.2))) then
          bif (Go.Proofs.Ytegbkaaibgdheaa.VX.fits ((List.length (([] : List (Int × (Int × Int))) ++ x.1.2)) + (List.length (x.2 :: ([] : List (Int × (Int × Int))))))) then
            some ((true, ((([] : List (Int × (Int × Int))) ++ x.1.2) ++ (x.2 :: ([] : List (Int × (Int × Int)))))), (false, (0 : Int)))
          else
            none
        else
          none
noncomputable def cx_plaitref10_Take : Ctx := { tb := mkTb T2.tbl, fx := [(26, [], Spec.shp si_plaitref05_Has so_plaitref05_Has F_plaitref05_Has)], sum := [], nt := 35, pin := 0, nr := true, ys := [] }
theorem F_plaitref10_Take_ok : Sound Try.prog 45 (Spec.shp si_plaitref10_Take so_plaitref10_Take F_plaitref10_Take) :=
  Sound.shp (C := cx_plaitref10_Take) (fn := Try.f45) (by kernel_rfl) (c := bodyOf Try.f45) (by kernel_rfl) (by decide) (ctxOK mixed tbl_ok rfl ⟨F_plaitref05_Has_ok, trivial⟩ trivial) (SumOK.of trivial) (by kernel_rfl) si_plaitref10_Take so_plaitref10_Take rfl (by decide) (by decide) rfl (by decide) rfl F_plaitref10_Take (fun x => by kernel_rfl)
abbrev si_plaitref10_Give : Shape := { sl := [(0, (.hole (.pair .bool (.slice (.pair (.int .i64) (.pair (.int .i64) (.int .i64)))))))], bl := [], ts := [(.pair .bool (.slice (.pair (.int .i64) (.pair (.int .i64) (.int .i64)))))], pin := 0 }
abbrev so_plaitref10_Give : Shape := { sl := [(0, (.hole (.pair .bool (.slice (.pair (.int .i64) (.pair (.int .i64) (.int .i64))))))), (1, (.hole (.pair (.int .i64) (.pair (.int .i64) (.int .i64))))), (2, (.hole .bool))], bl := [], ts := [(.pair .bool (.slice (.pair (.int .i64) (.pair (.int .i64) (.int .i64))))), (.pair (.int .i64) (.pair (.int .i64) (.int .i64))), .bool], pin := 0 }
noncomputable def F_plaitref10_Give (x : ((Bool × List ((Int × (Int × Int)))))) : Option ((Bool × List ((Int × (Int × Int)))) × (Int × (Int × Int)) × Bool) :=
  bif ((((List.length x.2) : Nat) : Int) == (0 : Int)) then
    some ((false, ([] : List (Int × (Int × Int)))), (((0 : Int), ((0 : Int), (0 : Int))), false))
  else
    bif (Go.Proofs.Ytegbkaaibgdheaa.VX.sub3 (1 : Int) (((List.length x.2) : Nat) : Int) (List.length x.2)) then
      bif (Go.Proofs.Ytegbkaaibgdheaa.VX.inb (0 : Int) (List.length x.2)) then
        some ((true, (Go.Proofs.Ytegbkaaibgdheaa.VX.cut x.2 (Go.Proofs.Ytegbkaaibgdheaa.VX.toN (1 : Int)) ((Go.Proofs.Ytegbkaaibgdheaa.VX.toN (((List.length x.2) : Nat) : Int)) - (Go.Proofs.Ytegbkaaibgdheaa.VX.toN (1 : Int))))), ((Go.Proofs.Ytegbkaaibgdheaa.VX.getAt ((0 : Int), ((0 : Int), (0 : Int))) x.2 (Go.Proofs.Ytegbkaaibgdheaa.VX.toN (0 : Int))), true))
      else
        none
    else
      none
noncomputable def cx_plaitref10_Give : Ctx := { tb := mkTb T2.tbl, fx := [], sum := [], nt := 19, pin := 0, nr := true, ys := [] }
theorem F_plaitref10_Give_ok : Sound Try.prog 43 (Spec.shp si_plaitref10_Give so_plaitref10_Give F_plaitref10_Give) :=
  Sound.shp (C := cx_plaitref10_Give) (fn := Try.f43) (by kernel_rfl) (c := bodyOf Try.f43) (by kernel_rfl) (by decide) (ctxOK mixed tbl_ok rfl trivial trivial) (SumOK.of trivial) (by kernel_rfl) si_plaitref10_Give so_plaitref10_Give rfl (by decide) (by decide) rfl (by decide) rfl F_plaitref10_Give (fun x => by kernel_rfl)
noncomputable def F_plaitlaw10_LocksTell (x : ((Bool × List ((Int × (Int × Int)))) × (Int × (Int × Int)))) : Option (Bool) :=
  ((F_plaitlaw10_few x.1)).bind fun r1 =>
  ((F_locks_Take (r1, x.2))).bind fun r2 =>
  ((F_locks_Give r1)).bind fun r3 =>
  ((F_locks_Waiting r1)).bind fun r4 =>
  ((F_plaitref10_Right r1)).bind fun r5 =>
  ((F_locks_Right r1)).bind fun r6 =>
  bif (Bool.not (Go.Proofs.Ytegbkaaibgdheaa.VX.Ty.beq Go.Proofs.Ytegbkaaibgdheaa.VX.Ty.bool r6 r5)) then
    some false
  else
    ((F_plaitlaw10_alive ())).bind fun r7 =>
    bif (Bool.not r7) then
      some false
    else
      bif (Bool.not r5) then
        bif (r2.2.2 == (1 : Int)) then
          bif (r3.2.2.2 == (1 : Int)) then
            bif (r4.2 == (1 : Int)) then
              bif (Bool.not r2.2.1) then
                bif (Bool.not r3.2.2.1) then
                  bif (r4.1 == (0 : Int)) then
                    bif (Go.Proofs.Ytegbkaaibgdheaa.VX.Ty.beq (@Go.Proofs.Ytegbkaaibgdheaa.VX.Ty.pair (@Go.Proofs.Ytegbkaaibgdheaa.VX.Ty.int Go.IntKind.i64) (@Go.Proofs.Ytegbkaaibgdheaa.VX.Ty.pair (@Go.Proofs.Ytegbkaaibgdheaa.VX.Ty.int Go.IntKind.i64) (@Go.Proofs.Ytegbkaaibgdheaa.VX.Ty.int Go.IntKind.i64))) r3.2.1 ((0 : Int), ((0 : Int), (0 : Int)))) then
                      ((F_plaitref10_Same (r2.1, (false, ([] : List (Int × (Int × Int))))))).bind fun r8 =>
                      bif r8 then
                        ((F_plaitref10_Same (r3.1, (false, ([] : List (Int × (Int × Int))))))).bind fun r9 =>
                        some r9
                      else
                        some false
                    else
                      some false
                  else
                    some false
                else
                  some false
              else
                some false
            else
              some false
          else
            some false
        else
          some false
      else
        bif (r4.2 != (0 : Int)) then
          some false
        else
          bif (r4.1 != (((List.length r1.2) : Nat) : Int)) then
            some false
          else
            bif (Bool.not r1.1) then
              bif (r3.2.2.2 != (6 : Int)) then
                some false
              else
                bif r3.2.2.1 then
                  some false
                else
                  bif (Bool.not (Go.Proofs.Ytegbkaaibgdheaa.VX.Ty.beq (@Go.Proofs.Ytegbkaaibgdheaa.VX.Ty.pair (@Go.Proofs.Ytegbkaaibgdheaa.VX.Ty.int Go.IntKind.i64) (@Go.Proofs.Ytegbkaaibgdheaa.VX.Ty.pair (@Go.Proofs.Ytegbkaaibgdheaa.VX.Ty.int Go.IntKind.i64) (@Go.Proofs.Ytegbkaaibgdheaa.VX.Ty.int Go.IntKind.i64))) r3.2.1 ((0 : Int), ((0 : Int), (0 : Int))))) then
                    some false
                  else
                    ((F_plaitref10_Same (r3.1, (false, ([] : List (Int × (Int × Int))))))).bind fun r8 =>
                    bif (Bool.not r8) then
                      some false
                    else
                      ((F_plaitref05_May x.2)).bind fun r9 =>
                      bif (Bool.not r9) then
                        bif (r2.2.2 == (1 : Int)) then
                          bif (Bool.not r2.2.1) then
                            ((F_plaitref10_Same (r2.1, (false, ([] : List (Int × (Int × Int))))))).bind fun r10 =>
                            some r10
                          else
                            some false
                        else
                          some false
                      else
                        ((F_plaitref10_Take (r1, x.2))).bind fun r10 =>
                        bif (r2.2.2 == r10.2.2) then
                          bif (Go.Proofs.Ytegbkaaibgdheaa.VX.Ty.beq Go.Proofs.Ytegbkaaibgdheaa.VX.Ty.bool r2.2.1 r10.2.1) then
                            ((F_plaitref10_Same (r2.1, r10.1))).bind fun r11 =>
                            some r11
                          else
                            some false
                        else
                          some false
            else
              ((F_plaitref10_Give r1)).bind fun r8 =>
              bif (r3.2.2.2 != (0 : Int)) then
                some false
              else
                bif (Bool.not (Go.Proofs.Ytegbkaaibgdheaa.VX.Ty.beq Go.Proofs.Ytegbkaaibgdheaa.VX.Ty.bool r3.2.2.1 r8.2.2)) then
                  some false
                else
                  bif (Bool.not (Go.Proofs.Ytegbkaaibgdheaa.VX.Ty.beq (@Go.Proofs.Ytegbkaaibgdheaa.VX.Ty.pair (@Go.Proofs.Ytegbkaaibgdheaa.VX.Ty.int Go.IntKind.i64) (@Go.Proofs.Ytegbkaaibgdheaa.VX.Ty.pair (@Go.Proofs.Ytegbkaaibgdheaa.VX.Ty.int Go.IntKind.i64) (@Go.Proofs.Ytegbkaaibgdheaa.VX.Ty.int Go.IntKind.i64))) r3.2.1 r8.2.1)) then
                    some false
                  else
                    ((F_plaitref10_Same (r3.1, r8.1))).bind fun r9 =>
                    bif (Bool.not r9) then
                      some false
                    else
                      ((F_plaitref05_May x.2)).bind fun r10 =>
                      bif (Bool.not r10) then
                        bif (r2.2.2 == (1 : Int)) then
                          bif (Bool.not r2.2.1) then
                            ((F_plaitref10_Same (r2.1, (false, ([] : List (Int × (Int × Int))))))).bind fun r11 =>
                            some r11
                          else
                            some false
                        else
                          some false
                      else
                        ((F_plaitref10_Take (r1, x.2))).bind fun r11 =>
                        bif (r2.2.2 == r11.2.2) then
                          bif (Go.Proofs.Ytegbkaaibgdheaa.VX.Ty.beq Go.Proofs.Ytegbkaaibgdheaa.VX.Ty.bool r2.2.1 r11.2.1) then
                            ((F_plaitref10_Same (r2.1, r11.1))).bind fun r12 =>
                            some r12
                          else
                            some false
                        else
                          some false
noncomputable def cx_plaitlaw10_LocksTell : Ctx := { tb := mkTb T2.tbl, fx := [(35, [], Spec.shp si_plaitlaw10_few so_plaitlaw10_few F_plaitlaw10_few), (36, [], Spec.shp si_locks_Take so_locks_Take F_locks_Take), (37, [], Spec.shp si_locks_Give so_locks_Give F_locks_Give), (38, [], Spec.shp si_locks_Waiting so_locks_Waiting F_locks_Waiting), (39, [], Spec.shp si_plaitref10_Right so_plaitref10_Right F_plaitref10_Right), (40, [], Spec.shp si_locks_Right so_locks_Right F_locks_Right), (41, [], Spec.shp si_plaitlaw10_alive so_plaitlaw10_alive F_plaitlaw10_alive), (42, [], Spec.shp si_plaitref10_Same so_plaitref10_Same F_plaitref10_Same), (44, [], Spec.shp si_plaitref05_May so_plaitref05_May F_plaitref05_May), (45, [], Spec.shp si_plaitref10_Take so_plaitref10_Take F_plaitref10_Take), (43, [], Spec.shp si_plaitref10_Give so_plaitref10_Give F_plaitref10_Give)], sum := [], nt := 179, pin := 0, nr := true, ys := [] }
theorem F_plaitlaw10_LocksTell_ok : Sound Try.prog 8 (Spec.pure [(.pair .bool (.slice (.pair (.int .i64) (.pair (.int .i64) (.int .i64))))), (.pair (.int .i64) (.pair (.int .i64) (.int .i64)))] [.bool] F_plaitlaw10_LocksTell) :=
  Sound.pure (C := cx_plaitlaw10_LocksTell) (fn := Try.f8) (by kernel_rfl) (c := bodyOf Try.f8) (by kernel_rfl) (by decide) (ctxOK mixed tbl_ok rfl ⟨F_plaitlaw10_few_ok, F_locks_Take_ok, F_locks_Give_ok, F_locks_Waiting_ok, F_plaitref10_Right_ok, F_locks_Right_ok, F_plaitlaw10_alive_ok, F_plaitref10_Same_ok, F_plaitref05_May_ok, F_plaitref10_Take_ok, F_plaitref10_Give_ok, trivial⟩) (SumOK.of trivial) (by kernel_rfl) rfl _ _ (by decide) _ (fun x => by kernel_rfl)
abbrev sh_plaitlaw05_WaitsWho_13 : Shape := { sl := [(0, (.hole (.slice (.pair (.int .i64) (.pair (.int .i64) (.int .i64)))))), (1, (.hole (.int .i64))), (5, (.hole (.slice (.int .i64)))), (7, (.hole .bool)), (8, (.hole (.slice (.pair (.int .i64) (.pair (.int .i64) (.int .i64)))))), (10, (.hole (.int .i64))), (46, (.hole (.slice (.int .i64)))), (47, (.hole (.int .i64))), (48, (.hole (.int .i64))), (55, (.hole (.slice (.int .i64)))), (56, (.hole (.int .i64))), (57, (.hole (.int .i64)))], bl := [], ts := [(.slice (.pair (.int .i64) (.pair (.int .i64) (.int .i64)))), (.int .i64), (.slice (.int .i64)), .bool, (.slice (.pair (.int .i64) (.pair (.int .i64) (.int .i64)))), (.int .i64), (.slice (.int .i64)), (.int .i64), (.int .i64), (.slice (.int .i64)), (.int .i64), (.int .i64)], pin := 0 }
abbrev es_plaitlaw05_WaitsWho_13 : List (ETag × Shape) := [(.ret, { sl := [(4, (.hole .bool))], bl := [], ts := [.bool], pin := 0 }), (.exit 2, { sl := [(0, (.hole (.slice (.pair (.int .i64) (.pair (.int .i64) (.int .i64)))))), (1, (.hole (.int .i64))), (5, (.hole (.slice (.int .i64)))), (7, (.hole .bool)), (8, (.hole (.slice (.pair (.int .i64) (.pair (.int .i64) (.int .i64)))))), (10, (.hole (.int .i64))), (46, (.hole (.slice (.int .i64)))), (47, (.hole (.int .i64))), (48, (.hole (.int .i64)))], bl := [], ts := [(.slice (.pair (.int .i64) (.pair (.int .i64) (.int .i64)))), (.int .i64), (.slice (.int .i64)), .bool, (.slice (.pair (.int .i64) (.pair (.int .i64) (.int .i64)))), (.int .i64), (.slice (.int .i64)), (.int .i64), (.int .i64)], pin := 0 })]
noncomputable def L_plaitlaw05_WaitsWho_13 (x : (List ((Int × (Int × Int))) × Int × List (Int) × Bool × List ((Int × (Int × Int))) × Int × List (Int) × Int × Int × List (Int) × Int × Int)) : Option ((List ((Int × (Int × Int))) × Int × List (Int) × Bool × List ((Int × (Int × Int))) × Int × List (Int) × Int × Int × List (Int) × Int × Int) ⊕ ((Bool) ⊕ (List ((Int × (Int × Int))) × Int × List (Int) × Bool × List ((Int × (Int × Int))) × Int × List (Int) × Int × Int))) :=
  bif (decide (x.2.2.2.2.2.2.2.2.2.2.2 < x.2.2.2.2.2.2.2.2.2.2.1)) then
    bif (Go.Proofs.Ytegbkaaibgdheaa.VX.inb x.2.2.2.2.2.2.2.2.2.2.2 (List.length x.2.2.2.2.2.2.2.2.2.1)) then
      bif (x.2.2.2.2.2.1 == (Go.Proofs.Ytegbkaaibgdheaa.VX.getAt (0 : Int) x.2.2.2.2.2.2.2.2.2.1 (Go.Proofs.Ytegbkaaibgdheaa.VX.toN x.2.2.2.2.2.2.2.2.2.2.2))) then
        some (.inr (.inl false))
      else
        some (.inl (x.1, (x.2.1, (x.2.2.1, (x.2.2.2.1, (x.2.2.2.2.1, (x.2.2.2.2.2.1, (x.2.2.2.2.2.2.1, (x.2.2.2.2.2.2.2.1, (x.2.2.2.2.2.2.2.2.1, (x.2.2.2.2.2.2.2.2.2.1, (x.2.2.2.2.2.2.2.2.2.2.1, (Go.IntKind.wrap Go.IntKind.i64 (x.2.2.2.2.2.2.2.2.2.2.2 + (1 : Int)))))))))))))))
    else
      none
  else
    some (.inr (.inr (x.1, (x.2.1, (x.2.2.1, (x.2.2.2.1, (x.2.2.2.2.1, (x.2.2.2.2.2.1, (x.2.2.2.2.2.2.1, (x.2.2.2.2.2.2.2.1, x.2.2.2.2.2.2.2.2.1))))))))))
noncomputable def cx_plaitlaw05_WaitsWho_13 : Ctx := { tb := mkTb T2.tbl, fx := [(33, [], Spec.shp si_plaitlaw05_few so_plaitlaw05_few F_plaitlaw05_few), (34, [], Spec.shp si_waits_Who so_waits_Who F_waits_Who), (29, [], Spec.shp si_plaitlaw05_alive so_plaitlaw05_alive F_plaitlaw05_alive)], sum := [], nt := 155, pin := 0, nr := true, ys := [] }
theorem L_plaitlaw05_WaitsWho_13_ok : CSound Try.prog ⟨155, 0, true⟩ (.loop (loopOf 13 Try.f7)) (pieceSpec sh_plaitlaw05_WaitsWho_13 es_plaitlaw05_WaitsWho_13 (loop L_plaitlaw05_WaitsWho_13)) :=
  loop_sound (C := cx_plaitlaw05_WaitsWho_13) (ctxOK mixed tbl_ok rfl ⟨F_plaitlaw05_few_ok, F_waits_Who_ok, F_plaitlaw05_alive_ok, trivial⟩ trivial) (SumOK.of trivial) sh_plaitlaw05_WaitsWho_13 es_plaitlaw05_WaitsWho_13 rfl rfl L_plaitlaw05_WaitsWho_13 (fun x => by kernel_rfl)
abbrev sh_plaitlaw05_WaitsWho_10 : Shape := { sl := [(0, (.hole (.slice (.pair (.int .i64) (.pair (.int .i64) (.int .i64)))))), (1, (.hole (.int .i64))), (5, (.hole (.slice (.int .i64)))), (7, (.hole .bool)), (8, (.hole (.slice (.pair (.int .i64) (.pair (.int .i64) (.int .i64)))))), (46, (.hole (.slice (.int .i64)))), (47, (.hole (.int .i64))), (48, (.hole (.int .i64)))], bl := [], ts := [(.slice (.pair (.int .i64) (.pair (.int .i64) (.int .i64)))), (.int .i64), (.slice (.int .i64)), .bool, (.slice (.pair (.int .i64) (.pair (.int .i64) (.int .i64)))), (.slice (.int .i64)), (.int .i64), (.int .i64)], pin := 0 }
abbrev es_plaitlaw05_WaitsWho_10 : List (ETag × Shape) := [(.ret, { sl := [(4, (.hole .bool))], bl := [], ts := [.bool], pin := 0 }), (.exit 0, { sl := [(0, (.hole (.slice (.pair (.int .i64) (.pair (.int .i64) (.int .i64)))))), (1, (.hole (.int .i64))), (5, (.hole (.slice (.int .i64)))), (7, (.hole .bool)), (8, (.hole (.slice (.pair (.int .i64) (.pair (.int .i64) (.int .i64))))))], bl := [], ts := [(.slice (.pair (.int .i64) (.pair (.int .i64) (.int .i64)))), (.int .i64), (.slice (.int .i64)), .bool, (.slice (.pair (.int .i64) (.pair (.int .i64) (.int .i64))))], pin := 0 })]
noncomputable def L_plaitlaw05_WaitsWho_10 (x : (List ((Int × (Int × Int))) × Int × List (Int) × Bool × List ((Int × (Int × Int))) × List (Int) × Int × Int)) : Option ((List ((Int × (Int × Int))) × Int × List (Int) × Bool × List ((Int × (Int × Int))) × List (Int) × Int × Int) ⊕ ((Bool) ⊕ (List ((Int × (Int × Int))) × Int × List (Int) × Bool × List ((Int × (Int × Int)))))) :=
  bif (decide (x.2.2.2.2.2.2.2 < x.2.2.2.2.2.2.1)) then
    bif (Go.Proofs.Ytegbkaaibgdheaa.VX.inb x.2.2.2.2.2.2.2 (List.length x.2.2.2.2.2.1)) then
      bif (Go.Proofs.Ytegbkaaibgdheaa.VX.sub3 (0 : Int) x.2.2.2.2.2.2.2 (List.length x.2.2.1)) then
        ((loop L_plaitlaw05_WaitsWho_13 (x.1, (x.2.1, (x.2.2.1, (x.2.2.2.1, (x.2.2.2.2.1, ((Go.Proofs.Ytegbkaaibgdheaa.VX.getAt (0 : Int) x.2.2.2.2.2.1 (Go.Proofs.Ytegbkaaibgdheaa.VX.toN x.2.2.2.2.2.2.2)), (x.2.2.2.2.2.1, (x.2.2.2.2.2.2.1, (x.2.2.2.2.2.2.2, ((Go.Proofs.Ytegbkaaibgdheaa.VX.cut x.2.2.1 (Go.Proofs.Ytegbkaaibgdheaa.VX.toN (0 : Int)) ((Go.Proofs.Ytegbkaaibgdheaa.VX.toN x.2.2.2.2.2.2.2) - (Go.Proofs.Ytegbkaaibgdheaa.VX.toN (0 : Int)))), ((((List.length (Go.Proofs.Ytegbkaaibgdheaa.VX.cut x.2.2.1 (Go.Proofs.Ytegbkaaibgdheaa.VX.toN (0 : Int)) ((Go.Proofs.Ytegbkaaibgdheaa.VX.toN x.2.2.2.2.2.2.2) - (Go.Proofs.Ytegbkaaibgdheaa.VX.toN (0 : Int))))) : Nat) : Int), (0 : Int)))))))))))))).bind fun r4 =>
        match r4 with
        | .inl y5 =>
          some (.inr (.inl y5))
        | .inr y5 =>
          bif y5.2.2.2.1 then
            ((F_waits_Drop (y5.2.2.2.2.1, y5.2.2.2.2.2.1))).bind fun r6 =>
            bif (r6.2 != (0 : Int)) then
              some (.inr (.inl false))
            else
              bif (decide ((((List.length r6.1) : Nat) : Int) ≥ (((List.length y5.2.2.2.2.1) : Nat) : Int))) then
                some (.inr (.inl false))
              else
                some (.inl (y5.1, (y5.2.1, (y5.2.2.1, (true, (r6.1, (y5.2.2.2.2.2.2.1, (y5.2.2.2.2.2.2.2.1, (Go.IntKind.wrap Go.IntKind.i64 (y5.2.2.2.2.2.2.2.2 + (1 : Int)))))))))))
          else
            ((F_waits_Drop (y5.2.2.2.2.1, y5.2.2.2.2.2.1))).bind fun r6 =>
            bif (r6.2 != (0 : Int)) then
              some (.inr (.inl false))
            else
              bif (decide ((((List.length r6.1) : Nat) : Int) ≥ (((List.length y5.2.2.2.2.1) : Nat) : Int))) then
                some (.inr (.inl false))
              else
                some (.inl (y5.1, (y5.2.1, (y5.2.2.1, ((y5.2.2.2.2.2.1 == y5.2.1), (r6.1, (y5.2.2.2.2.2.2.1, (y5.2.2.2.2.2.2.2.1, (Go.IntKind.wrap Go.IntKind.i64 (y5.2.2.2.2.2.2.2.2 + (1 : Int)))))))))))
      else
        none
    else
      none
  else
    some (.inr (.inr (x.1, (x.2.1, (x.2.2.1, (x.2.2.2.1, x.2.2.2.2.1))))))
noncomputable def cx_plaitlaw05_WaitsWho_10 : Ctx := { tb := mkTb T2.tbl, fx := [(33, [], Spec.shp si_plaitlaw05_few so_plaitlaw05_few F_plaitlaw05_few), (34, [], Spec.shp si_waits_Who so_waits_Who F_waits_Who), (29, [], Spec.shp si_plaitlaw05_alive so_plaitlaw05_alive F_plaitlaw05_alive), (23, [], Spec.shp si_waits_Drop so_waits_Drop F_waits_Drop)], sum := [(0, 13, pieceSpec sh_plaitlaw05_WaitsWho_13 es_plaitlaw05_WaitsWho_13 (loop L_plaitlaw05_WaitsWho_13))], nt := 155, pin := 0, nr := true, ys := [] }
theorem L_plaitlaw05_WaitsWho_10_ok : CSound Try.prog ⟨155, 0, true⟩ (.loop (loopOf 10 Try.f7)) (pieceSpec sh_plaitlaw05_WaitsWho_10 es_plaitlaw05_WaitsWho_10 (loop L_plaitlaw05_WaitsWho_10)) :=
  loop_sound (C := cx_plaitlaw05_WaitsWho_10) (ctxOK mixed tbl_ok rfl ⟨F_plaitlaw05_few_ok, F_waits_Who_ok, F_plaitlaw05_alive_ok, F_waits_Drop_ok, trivial⟩ trivial) (SumOK.of ⟨(pieces_one (d := .loop (loopOf 13 Try.f7)) (by kernel_rfl) L_plaitlaw05_WaitsWho_13_ok), trivial⟩) sh_plaitlaw05_WaitsWho_10 es_plaitlaw05_WaitsWho_10 rfl rfl L_plaitlaw05_WaitsWho_10 (fun x => by kernel_rfl)
abbrev sh_plaitlaw05_WaitsWho_29 : Shape := { sl := [(0, (.hole (.slice (.pair (.int .i64) (.pair (.int .i64) (.int .i64)))))), (5, (.hole (.slice (.int .i64)))), (7, (.hole .bool)), (8, (.hole (.slice (.pair (.int .i64) (.pair (.int .i64) (.int .i64)))))), (15, (.hole (.slice (.pair (.int .i64) (.pair (.int .i64) (.int .i64)))))), (16, (.hole (.int .i64))), (17, (.hole (.int .i64))), (95, (.hole (.int .i64))), (96, (.hole (.int .i64))), (98, (.hole (.slice (.int .i64)))), (99, (.hole (.int .i64))), (100, (.hole (.int .i64)))], bl := [], ts := [(.slice (.pair (.int .i64) (.pair (.int .i64) (.int .i64)))), (.slice (.int .i64)), .bool, (.slice (.pair (.int .i64) (.pair (.int .i64) (.int .i64)))), (.slice (.pair (.int .i64) (.pair (.int .i64) (.int .i64)))), (.int .i64), (.int .i64), (.int .i64), (.int .i64), (.slice (.int .i64)), (.int .i64), (.int .i64)], pin := 0 }
abbrev es_plaitlaw05_WaitsWho_29 : List (ETag × Shape) := [(.exit 6, { sl := [(0, (.hole (.slice (.pair (.int .i64) (.pair (.int .i64) (.int .i64)))))), (5, (.hole (.slice (.int .i64)))), (7, (.hole .bool)), (8, (.hole (.slice (.pair (.int .i64) (.pair (.int .i64) (.int .i64)))))), (15, (.hole (.slice (.pair (.int .i64) (.pair (.int .i64) (.int .i64)))))), (16, (.hole (.int .i64))), (17, (.hole (.int .i64))), (95, (.hole (.int .i64))), (96, (.hole (.int .i64)))], bl := [], ts := [(.slice (.pair (.int .i64) (.pair (.int .i64) (.int .i64)))), (.slice (.int .i64)), .bool, (.slice (.pair (.int .i64) (.pair (.int .i64) (.int .i64)))), (.slice (.pair (.int .i64) (.pair (.int .i64) (.int .i64)))), (.int .i64), (.int .i64), (.int .i64), (.int .i64)], pin := 0 })]
noncomputable def L_plaitlaw05_WaitsWho_29 (x : (List ((Int × (Int × Int))) × List (Int) × Bool × List ((Int × (Int × Int))) × List ((Int × (Int × Int))) × Int × Int × Int × Int × List (Int) × Int × Int)) : Option ((List ((Int × (Int × Int))) × List (Int) × Bool × List ((Int × (Int × Int))) × List ((Int × (Int × Int))) × Int × Int × Int × Int × List (Int) × Int × Int) ⊕ ((List ((Int × (Int × Int))) × List (Int) × Bool × List ((Int × (Int × Int))) × List ((Int × (Int × Int))) × Int × Int × Int × Int))) :=
  bif (decide (x.2.2.2.2.2.2.2.2.2.2.2 < x.2.2.2.2.2.2.2.2.2.2.1)) then
    bif (Go.Proofs.Ytegbkaaibgdheaa.VX.inb x.2.2.2.2.2.2.2.2.2.2.2 (List.length x.2.2.2.2.2.2.2.2.2.1)) then
      bif ((Go.Proofs.Ytegbkaaibgdheaa.VX.getAt (0 : Int) x.2.2.2.2.2.2.2.2.2.1 (Go.Proofs.Ytegbkaaibgdheaa.VX.toN x.2.2.2.2.2.2.2.2.2.2.2)) == x.2.2.2.2.2.2.1) then
        some (.inl (x.1, (x.2.1, (x.2.2.1, (x.2.2.2.1, (x.2.2.2.2.1, (x.2.2.2.2.2.1, ((Go.IntKind.wrap Go.IntKind.i64 (x.2.2.2.2.2.2.1 + (1 : Int))), (x.2.2.2.2.2.2.2.1, (x.2.2.2.2.2.2.2.2.1, (x.2.2.2.2.2.2.2.2.2.1, (x.2.2.2.2.2.2.2.2.2.2.1, (Go.IntKind.wrap Go.IntKind.i64 (x.2.2.2.2.2.2.2.2.2.2.2 + (1 : Int)))))))))))))))
      else
        some (.inl (x.1, (x.2.1, (x.2.2.1, (x.2.2.2.1, (x.2.2.2.2.1, (x.2.2.2.2.2.1, (x.2.2.2.2.2.2.1, (x.2.2.2.2.2.2.2.1, (x.2.2.2.2.2.2.2.2.1, (x.2.2.2.2.2.2.2.2.2.1, (x.2.2.2.2.2.2.2.2.2.2.1, (Go.IntKind.wrap Go.IntKind.i64 (x.2.2.2.2.2.2.2.2.2.2.2 + (1 : Int)))))))))))))))
    else
      none
  else
    some (.inr (x.1, (x.2.1, (x.2.2.1, (x.2.2.2.1, (x.2.2.2.2.1, (x.2.2.2.2.2.1, (x.2.2.2.2.2.2.1, (x.2.2.2.2.2.2.2.1, x.2.2.2.2.2.2.2.2.1)))))))))
noncomputable def cx_plaitlaw05_WaitsWho_29 : Ctx := { tb := mkTb T2.tbl, fx := [(33, [], Spec.shp si_plaitlaw05_few so_plaitlaw05_few F_plaitlaw05_few), (34, [], Spec.shp si_waits_Who so_waits_Who F_waits_Who), (29, [], Spec.shp si_plaitlaw05_alive so_plaitlaw05_alive F_plaitlaw05_alive), (23, [], Spec.shp si_waits_Drop so_waits_Drop F_waits_Drop)], sum := [(0, 13, pieceSpec sh_plaitlaw05_WaitsWho_13 es_plaitlaw05_WaitsWho_13 (loop L_plaitlaw05_WaitsWho_13)), (0, 10, pieceSpec sh_plaitlaw05_WaitsWho_10 es_plaitlaw05_WaitsWho_10 (loop L_plaitlaw05_WaitsWho_10))], nt := 155, pin := 0, nr := true, ys := [] }
theorem L_plaitlaw05_WaitsWho_29_ok : CSound Try.prog ⟨155, 0, true⟩ (.loop (loopOf 29 Try.f7)) (pieceSpec sh_plaitlaw05_WaitsWho_29 es_plaitlaw05_WaitsWho_29 (loop L_plaitlaw05_WaitsWho_29)) :=
  loop_sound (C := cx_plaitlaw05_WaitsWho_29) (ctxOK mixed tbl_ok rfl ⟨F_plaitlaw05_few_ok, F_waits_Who_ok, F_plaitlaw05_alive_ok, F_waits_Drop_ok, trivial⟩ trivial) (SumOK.of ⟨(pieces_none (by kernel_rfl)), (pieces_none (by kernel_rfl)), trivial⟩) sh_plaitlaw05_WaitsWho_29 es_plaitlaw05_WaitsWho_29 rfl rfl L_plaitlaw05_WaitsWho_29 (fun x => by kernel_rfl)
abbrev sh_plaitlaw05_WaitsWho_27 : Shape := { sl := [(0, (.hole (.slice (.pair (.int .i64) (.pair (.int .i64) (.int .i64)))))), (5, (.hole (.slice (.int .i64)))), (7, (.hole .bool)), (8, (.hole (.slice (.pair (.int .i64) (.pair (.int .i64) (.int .i64)))))), (15, (.hole (.slice (.pair (.int .i64) (.pair (.int .i64) (.int .i64)))))), (16, (.hole (.int .i64))), (17, (.hole (.int .i64))), (95, (.hole (.int .i64))), (96, (.hole (.int .i64)))], bl := [], ts := [(.slice (.pair (.int .i64) (.pair (.int .i64) (.int .i64)))), (.slice (.int .i64)), .bool, (.slice (.pair (.int .i64) (.pair (.int .i64) (.int .i64)))), (.slice (.pair (.int .i64) (.pair (.int .i64) (.int .i64)))), (.int .i64), (.int .i64), (.int .i64), (.int .i64)], pin := 0 }
abbrev es_plaitlaw05_WaitsWho_27 : List (ETag × Shape) := [(.exit 4, { sl := [(0, (.hole (.slice (.pair (.int .i64) (.pair (.int .i64) (.int .i64)))))), (7, (.hole .bool)), (8, (.hole (.slice (.pair (.int .i64) (.pair (.int .i64) (.int .i64)))))), (15, (.hole (.slice (.pair (.int .i64) (.pair (.int .i64) (.int .i64)))))), (16, (.hole (.int .i64))), (17, (.hole (.int .i64)))], bl := [], ts := [(.slice (.pair (.int .i64) (.pair (.int .i64) (.int .i64)))), .bool, (.slice (.pair (.int .i64) (.pair (.int .i64) (.int .i64)))), (.slice (.pair (.int .i64) (.pair (.int .i64) (.int .i64)))), (.int .i64), (.int .i64)], pin := 0 })]
noncomputable def L_plaitlaw05_WaitsWho_27 (x : (List ((Int × (Int × Int))) × List (Int) × Bool × List ((Int × (Int × Int))) × List ((Int × (Int × Int))) × Int × Int × Int × Int)) : Option ((List ((Int × (Int × Int))) × List (Int) × Bool × List ((Int × (Int × Int))) × List ((Int × (Int × Int))) × Int × Int × Int × Int) ⊕ ((List ((Int × (Int × Int))) × Bool × List ((Int × (Int × Int))) × List ((Int × (Int × Int))) × Int × Int))) :=
  bif (decide (x.2.2.2.2.2.2.2.2 < x.2.2.2.2.2.2.2.1)) then
    ((loop L_plaitlaw05_WaitsWho_29 (x.1, (x.2.1, (x.2.2.1, (x.2.2.2.1, (x.2.2.2.2.1, (x.2.2.2.2.2.1, (x.2.2.2.2.2.2.1, (x.2.2.2.2.2.2.2.1, (x.2.2.2.2.2.2.2.2, (x.2.1, ((((List.length x.2.1) : Nat) : Int), (0 : Int)))))))))))))).bind fun r7 =>
    some (.inl (r7.1, (r7.2.1, (r7.2.2.1, (r7.2.2.2.1, (r7.2.2.2.2.1, (r7.2.2.2.2.2.1, (r7.2.2.2.2.2.2.1, (r7.2.2.2.2.2.2.2.1, (Go.IntKind.wrap Go.IntKind.i64 (r7.2.2.2.2.2.2.2.2 + (1 : Int))))))))))))
  else
    some (.inr (x.1, (x.2.2.1, (x.2.2.2.1, (x.2.2.2.2.1, (x.2.2.2.2.2.1, x.2.2.2.2.2.2.1))))))
noncomputable def cx_plaitlaw05_WaitsWho_27 : Ctx := { tb := mkTb T2.tbl, fx := [(33, [], Spec.shp si_plaitlaw05_few so_plaitlaw05_few F_plaitlaw05_few), (34, [], Spec.shp si_waits_Who so_waits_Who F_waits_Who), (29, [], Spec.shp si_plaitlaw05_alive so_plaitlaw05_alive F_plaitlaw05_alive), (23, [], Spec.shp si_waits_Drop so_waits_Drop F_waits_Drop)], sum := [(0, 13, pieceSpec sh_plaitlaw05_WaitsWho_13 es_plaitlaw05_WaitsWho_13 (loop L_plaitlaw05_WaitsWho_13)), (0, 10, pieceSpec sh_plaitlaw05_WaitsWho_10 es_plaitlaw05_WaitsWho_10 (loop L_plaitlaw05_WaitsWho_10)), (0, 29, pieceSpec sh_plaitlaw05_WaitsWho_29 es_plaitlaw05_WaitsWho_29 (loop L_plaitlaw05_WaitsWho_29))], nt := 155, pin := 0, nr := true, ys := [] }
theorem L_plaitlaw05_WaitsWho_27_ok : CSound Try.prog ⟨155, 0, true⟩ (.loop (loopOf 27 Try.f7)) (pieceSpec sh_plaitlaw05_WaitsWho_27 es_plaitlaw05_WaitsWho_27 (loop L_plaitlaw05_WaitsWho_27)) :=
  loop_sound (C := cx_plaitlaw05_WaitsWho_27) (ctxOK mixed tbl_ok rfl ⟨F_plaitlaw05_few_ok, F_waits_Who_ok, F_plaitlaw05_alive_ok, F_waits_Drop_ok, trivial⟩ trivial) (SumOK.of ⟨(pieces_none (by kernel_rfl)), (pieces_none (by kernel_rfl)), (pieces_one (d := .loop (loopOf 29 Try.f7)) (by kernel_rfl) L_plaitlaw05_WaitsWho_29_ok), trivial⟩) sh_plaitlaw05_WaitsWho_27 es_plaitlaw05_WaitsWho_27 rfl rfl L_plaitlaw05_WaitsWho_27 (fun x => by kernel_rfl)
noncomputable def F_plaitlaw05_WaitsWho (x : (List ((Int × (Int × Int))) × Int)) : Option (Bool) :=
  ((F_plaitlaw05_few x.1)).bind fun r1 =>
  ((F_waits_Who r1)).bind fun r2 =>
  bif (r2.2 != (0 : Int)) then
    ((F_plaitlaw05_alive ())).bind fun r3 =>
    bif r3 then
      bif (r2.2 == (1 : Int)) then
        some ((((List.length r2.1) : Nat) : Int) == (0 : Int))
      else
        some false
    else
      some false
  else
    ((loop L_plaitlaw05_WaitsWho_10 (r1, ((Int.tmod (Go.IntKind.wrap Go.IntKind.i64 ((Int.tmod x.2 (16 : Int)) + (16 : Int))) (16 : Int)), (r2.1, (false, (r1, (r2.1, ((((List.length r2.1) : Nat) : Int), (0 : Int)))))))))).bind fun r3 =>
    match r3 with
    | .inl y4 =>
      some y4
    | .inr y4 =>
      ((F_waits_Drop (y4.1, y4.2.1))).bind fun r5 =>
      ((loop L_plaitlaw05_WaitsWho_27 (y4.1, (y4.2.2.1, (y4.2.2.2.1, (y4.2.2.2.2, (r5.1, (r5.2, ((0 : Int), ((((List.length y4.2.2.1) : Nat) : Int), (0 : Int))))))))))).bind fun r6 =>
      ((F_waits_First (r6.1, r6.2.2.2.2.2))).bind fun r7 =>
      ((F_plaitlaw05_alive ())).bind fun r8 =>
      bif r8 then
        bif (r6.2.2.2.2.1 == (0 : Int)) then
          bif ((((List.length r6.2.2.1) : Nat) : Int) == (0 : Int)) then
            ((F_plaitref05_Same (r6.2.2.2.1, r6.1))).bind fun r9 =>
            bif (Go.Proofs.Ytegbkaaibgdheaa.VX.Ty.beq Go.Proofs.Ytegbkaaibgdheaa.VX.Ty.bool r9 (Bool.not r6.2.1)) then
              bif (Go.Proofs.Ytegbkaaibgdheaa.VX.Ty.beq Go.Proofs.Ytegbkaaibgdheaa.VX.Ty.bool (r7.2 == (0 : Int)) (decide ((((List.length r6.1) : Nat) : Int) > (0 : Int)))) then
                bif ((((List.length r6.1) : Nat) : Int) == (0 : Int)) then
                  some true
                else
                  bif (Go.Proofs.Ytegbkaaibgdheaa.VX.inb (0 : Int) (List.length r6.1)) then
                    some (Go.Proofs.Ytegbkaaibgdheaa.VX.Ty.beq (@Go.Proofs.Ytegbkaaibgdheaa.VX.Ty.pair (@Go.Proofs.Ytegbkaaibgdheaa.VX.Ty.int Go.IntKind.i64) (@Go.Proofs.Ytegbkaaibgdheaa.VX.Ty.pair (@Go.Proofs.Ytegbkaaibgdheaa.VX.Ty.int Go.IntKind.i64) (@Go.Proofs.Ytegbkaaibgdheaa.VX.Ty.int Go.IntKind.i64))) r7.1 (Go.Proofs.Ytegbkaaibgdheaa.VX.getAt ((0 : Int), ((0 : Int), (0 : Int))) r6.1 (Go.Proofs.Ytegbkaaibgdheaa.VX.toN (0 : Int))))
                  else
                    none
              else
                some false
            else
              some false
          else
            some false
        else
          some false
      else
        some false
noncomputable def cx_plaitlaw05_WaitsWho : Ctx := { tb := mkTb T2.tbl, fx := [(33, [], Spec.shp si_plaitlaw05_few so_plaitlaw05_few F_plaitlaw05_few), (34, [], Spec.shp si_waits_Who so_waits_Who F_waits_Who), (29, [], Spec.shp si_plaitlaw05_alive so_plaitlaw05_alive F_plaitlaw05_alive), (23, [], Spec.shp si_waits_Drop so_waits_Drop F_waits_Drop), (28, [], Spec.shp si_waits_First so_waits_First F_waits_First), (27, [], Spec.shp si_plaitref05_Same so_plaitref05_Same F_plaitref05_Same)], sum := [(0, 13, pieceSpec sh_plaitlaw05_WaitsWho_13 es_plaitlaw05_WaitsWho_13 (loop L_plaitlaw05_WaitsWho_13)), (0, 10, pieceSpec sh_plaitlaw05_WaitsWho_10 es_plaitlaw05_WaitsWho_10 (loop L_plaitlaw05_WaitsWho_10)), (0, 29, pieceSpec sh_plaitlaw05_WaitsWho_29 es_plaitlaw05_WaitsWho_29 (loop L_plaitlaw05_WaitsWho_29)), (0, 27, pieceSpec sh_plaitlaw05_WaitsWho_27 es_plaitlaw05_WaitsWho_27 (loop L_plaitlaw05_WaitsWho_27))], nt := 155, pin := 0, nr := true, ys := [] }
theorem F_plaitlaw05_WaitsWho_ok : Sound Try.prog 7 (Spec.pure [(.slice (.pair (.int .i64) (.pair (.int .i64) (.int .i64)))), (.int .i64)] [.bool] F_plaitlaw05_WaitsWho) :=
  Sound.pure (C := cx_plaitlaw05_WaitsWho) (fn := Try.f7) (by kernel_rfl) (c := bodyOf Try.f7) (by kernel_rfl) (by decide) (ctxOK mixed tbl_ok rfl ⟨F_plaitlaw05_few_ok, F_waits_Who_ok, F_plaitlaw05_alive_ok, F_waits_Drop_ok, F_waits_First_ok, F_plaitref05_Same_ok, trivial⟩) (SumOK.of ⟨(pieces_one (d := .loop (loopOf 13 Try.f7)) (by kernel_rfl) L_plaitlaw05_WaitsWho_13_ok), (pieces_one (d := .loop (loopOf 10 Try.f7)) (by kernel_rfl) L_plaitlaw05_WaitsWho_10_ok), (pieces_one (d := .loop (loopOf 29 Try.f7)) (by kernel_rfl) L_plaitlaw05_WaitsWho_29_ok), (pieces_one (d := .loop (loopOf 27 Try.f7)) (by kernel_rfl) L_plaitlaw05_WaitsWho_27_ok), trivial⟩) (by kernel_rfl) rfl _ _ (by decide) _ (fun x => by kernel_rfl)
abbrev sh_plaitref05_Drop_lent_4 : Shape := { sl := [(1, (.hole (.int .i64))), (5, (.sl 1)), (9, (.sl 0)), (10, (.hole (.int .i64))), (11, (.hole (.int .i64)))], bl := [.row (.pair (.int .i64) (.pair (.int .i64) (.int .i64))), .row (.pair (.int .i64) (.pair (.int .i64) (.int .i64)))], ts := [(.int .i64), (.int .i64), (.int .i64), (.slice (.pair (.int .i64) (.pair (.int .i64) (.int .i64)))), (.slice (.pair (.int .i64) (.pair (.int .i64) (.int .i64))))], pin := 1 }
abbrev es_plaitref05_Drop_lent_4 : List (ETag × Shape) := [(.exit 0, { sl := [(5, (.sl 1))], bl := [.row (.pair (.int .i64) (.pair (.int .i64) (.int .i64))), .row (.pair (.int .i64) (.pair (.int .i64) (.int .i64)))], ts := [(.slice (.pair (.int .i64) (.pair (.int .i64) (.int .i64)))), (.slice (.pair (.int .i64) (.pair (.int .i64) (.int .i64))))], pin := 1 })]
noncomputable def L_plaitref05_Drop_lent_4 (x : (Int × Int × Int × List ((Int × (Int × Int))) × List ((Int × (Int × Int))))) : Option ((Int × Int × Int × List ((Int × (Int × Int))) × List ((Int × (Int × Int)))) ⊕ ((List ((Int × (Int × Int))) × List ((Int × (Int × Int)))))) :=
  bif (decide (x.2.2.1 < x.2.1)) then
    bif (Go.Proofs.Ytegbkaaibgdheaa.VX.inb x.2.2.1 (List.length x.2.2.2.1)) then
      bif ((Go.Proofs.Ytegbkaaibgdheaa.VX.getAt ((0 : Int), ((0 : Int), (0 : Int))) x.2.2.2.1 (Go.Proofs.Ytegbkaaibgdheaa.VX.toN x.2.2.1)).1 != x.1) then
        bif (Go.Proofs.Ytegbkaaibgdheaa.VX.fits ((List.length x.2.2.2.2) + (List.length ((Go.Proofs.Ytegbkaaibgdheaa.VX.getAt ((0 : Int), ((0 : Int), (0 : Int))) x.2.2.2.1 (Go.Proofs.Ytegbkaaibgdheaa.VX.toN x.2.2.1)) :: ([] : List (Int × (Int × Int))))))) then
          some (.inl (x.1, (x.2.1, ((Go.IntKind.wrap Go.IntKind.i64 (x.2.2.1 + (1 : Int))), (x.2.2.2.1, (x.2.2.2.2 ++ ((Go.Proofs.Ytegbkaaibgdheaa.VX.getAt ((0 : Int), ((0 : Int), (0 : Int))) x.2.2.2.1 (Go.Proofs.Ytegbkaaibgdheaa.VX.toN x.2.2.1)) :: ([] : List (Int × (Int × Int))))))))))
        else
          none
      else
        some (.inl (x.1, (x.2.1, ((Go.IntKind.wrap Go.IntKind.i64 (x.2.2.1 + (1 : Int))), (x.2.2.2.1, x.2.2.2.2)))))
    else
      none
  else
    some (.inr (x.2.2.2.1, x.2.2.2.2))
noncomputable def cx_plaitref05_Drop_lent_4 : Ctx := { tb := mkTb T2.tbl, fx := [], sum := [], nt := 25, pin := 1, nr := true, ys := [] }
theorem L_plaitref05_Drop_lent_4_ok : CSound Try.prog ⟨25, 1, true⟩ (.loop (loopOf 4 Try.f24)) (pieceSpec sh_plaitref05_Drop_lent_4 es_plaitref05_Drop_lent_4 (loop L_plaitref05_Drop_lent_4)) :=
  loop_sound (C := cx_plaitref05_Drop_lent_4) (ctxOK mixed tbl_ok rfl trivial trivial) (SumOK.of trivial) sh_plaitref05_Drop_lent_4 es_plaitref05_Drop_lent_4 rfl rfl L_plaitref05_Drop_lent_4 (fun x => by kernel_rfl)
abbrev si_plaitref05_Drop_lent : Shape := { sl := [(0, (.sl 0)), (1, (.hole (.int .i64)))], bl := [.row (.pair (.int .i64) (.pair (.int .i64) (.int .i64)))], ts := [(.int .i64), (.slice (.pair (.int .i64) (.pair (.int .i64) (.int .i64))))], pin := 0 }
abbrev so_plaitref05_Drop_lent : Shape := { sl := [(0, (.sl 1))], bl := [.row (.pair (.int .i64) (.pair (.int .i64) (.int .i64))), .row (.pair (.int .i64) (.pair (.int .i64) (.int .i64)))], ts := [(.slice (.pair (.int .i64) (.pair (.int .i64) (.int .i64)))), (.slice (.pair (.int .i64) (.pair (.int .i64) (.int .i64))))], pin := 1 }
noncomputable def F_plaitref05_Drop_lent (x : (Int × List ((Int × (Int × Int))))) : Option (List ((Int × (Int × Int))) × List ((Int × (Int × Int)))) :=
  ((loop L_plaitref05_Drop_lent_4 (x.1, ((((List.length x.2) : Nat) : Int), ((0 : Int), (x.2, ([] : List (Int × (Int × Int))))))))).bind fun r8 =>
  some (r8.1, r8.2)
noncomputable def cx_plaitref05_Drop_lent : Ctx := { tb := mkTb T2.tbl, fx := [], sum := [(0, 4, pieceSpec sh_plaitref05_Drop_lent_4 es_plaitref05_Drop_lent_4 (loop L_plaitref05_Drop_lent_4))], nt := 25, pin := 1, nr := true, ys := [] }
theorem F_plaitref05_Drop_lent_ok : Sound Try.prog 24 (Spec.shp si_plaitref05_Drop_lent so_plaitref05_Drop_lent F_plaitref05_Drop_lent) :=
  Sound.shp (C := cx_plaitref05_Drop_lent) (fn := Try.f24) (by kernel_rfl) (c := bodyOf Try.f24) (by kernel_rfl) (by decide) (ctxOK mixed tbl_ok rfl trivial trivial) (SumOK.of ⟨(pieces_one (d := .loop (loopOf 4 Try.f24)) (by kernel_rfl) L_plaitref05_Drop_lent_4_ok), trivial⟩) (by kernel_rfl) si_plaitref05_Drop_lent so_plaitref05_Drop_lent rfl (by decide) (by decide) rfl (by decide) rfl F_plaitref05_Drop_lent (fun x => by kernel_rfl)

end Go.Proofs.Ytegbkaaibgdheaa.VX.VxB_O
