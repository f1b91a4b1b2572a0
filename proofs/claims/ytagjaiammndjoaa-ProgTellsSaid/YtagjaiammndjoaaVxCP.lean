import Derived.Test.YtagjaiammndjoaaVxR
import Derived.Test.YtagjaiammndjoaaVxT2
import Derived.Test.YtagjaiammndjoaaVxSl
set_option linter.unusedVariables false
set_option maxRecDepth 100000
namespace Go.Proofs.Ytagjaiammndjoaa.VX.VxC_P
open Go.Proofs Go.Proofs.Ytagjaiammndjoaa.VX.T2
theorem mixed : Try.prog.follows .mixedOrders = true := by kernel_rfl
abbrev sh_plaitlaw06_few_5 : Shape := { sl := [(1, (.ptr 0 [])), (2, (.ptr 1 [])), (3, (.sl 2)), (23, (.hole (.slice (.pair (.slice (.pair .bool (.int .i64))) .bool)))), (24, (.hole (.int .i64))), (25, (.hole (.int .i64)))], bl := [.var (.hole (.pair (.slice (.int .i64)) (.pair (.int .i64) (.pair (.int .i64) (.pair (.int .i64) (.pair (.slice (.pair (.slice (.pair .bool (.int .i64))) .bool)) (.slice (.slice (.pair (.int .i64) (.pair (.int .i64) (.int .i64))))))))))), .var (.pr .nl (.pr (.hole (.int .i64)) (.pr (.hole (.int .i64)) (.pr (.hole (.int .i64)) (.pr .nl .nl))))), .row (.pair (.slice (.pair .bool (.int .i64))) .bool)], ts := [(.slice (.pair (.slice (.pair .bool (.int .i64))) .bool)), (.int .i64), (.int .i64), (.pair (.slice (.int .i64)) (.pair (.int .i64) (.pair (.int .i64) (.pair (.int .i64) (.pair (.slice (.pair (.slice (.pair .bool (.int .i64))) .bool)) (.slice (.slice (.pair (.int .i64) (.pair (.int .i64) (.int .i64)))))))))), (.int .i64), (.int .i64), (.int .i64), (.slice (.pair (.slice (.pair .bool (.int .i64))) .bool))], pin := 0 }
abbrev es_plaitlaw06_few_5 : List (ETag × Shape) := [(.exit 0, { sl := [(1, (.ptr 0 [])), (2, (.ptr 1 [])), (3, (.sl 2))], bl := [.var (.hole (.pair (.slice (.int .i64)) (.pair (.int .i64) (.pair (.int .i64) (.pair (.int .i64) (.pair (.slice (.pair (.slice (.pair .bool (.int .i64))) .bool)) (.slice (.slice (.pair (.int .i64) (.pair (.int .i64) (.int .i64))))))))))), .var (.pr .nl (.pr (.hole (.int .i64)) (.pr (.hole (.int .i64)) (.pr (.hole (.int .i64)) (.pr .nl .nl))))), .row (.pair (.slice (.pair .bool (.int .i64))) .bool)], ts := [(.pair (.slice (.int .i64)) (.pair (.int .i64) (.pair (.int .i64) (.pair (.int .i64) (.pair (.slice (.pair (.slice (.pair .bool (.int .i64))) .bool)) (.slice (.slice (.pair (.int .i64) (.pair (.int .i64) (.int .i64)))))))))), (.int .i64), (.int .i64), (.int .i64), (.slice (.pair (.slice (.pair .bool (.int .i64))) .bool))], pin := 0 })]
noncomputable def L_plaitlaw06_few_5 (x : (List ((List ((Bool × Int)) × Bool)) × Int × Int × (List (Int) × (Int × (Int × (Int × (List ((List ((Bool × Int)) × Bool)) × List (List ((Int × (Int × Int))))))))) × Int × Int × Int × List ((List ((Bool × Int)) × Bool)))) : Option ((List ((List ((Bool × Int)) × Bool)) × Int × Int × (List (Int) × (Int × (Int × (Int × (List ((List ((Bool × Int)) × Bool)) × List (List ((Int × (Int × Int))))))))) × Int × Int × Int × List ((List ((Bool × Int)) × Bool))) ⊕ (((List (Int) × (Int × (Int × (Int × (List ((List ((Bool × Int)) × Bool)) × List (List ((Int × (Int × Int))))))))) × Int × Int × Int × List ((List ((Bool × Int)) × Bool))))) :=
  bif (decide (x.2.2.1 < x.2.1)) then
    bif (Go.Proofs.Ytagjaiammndjoaa.VX.inb x.2.2.1 (List.length x.1)) then
      bif (Go.Proofs.Ytagjaiammndjoaa.VX.sub3 (0 : Int) (Min.min (((List.length (Go.Proofs.Ytagjaiammndjoaa.VX.getAt (([] : List (Bool × Int)), false) x.1 (Go.Proofs.Ytagjaiammndjoaa.VX.toN x.2.2.1)).1) : Nat) : Int) (6 : Int)) (List.length (Go.Proofs.Ytagjaiammndjoaa.VX.getAt (([] : List (Bool × Int)), false) x.1 (Go.Proofs.Ytagjaiammndjoaa.VX.toN x.2.2.1)).1)) then
        bif (Go.Proofs.Ytagjaiammndjoaa.VX.fits ((List.length x.2.2.2.2.2.2.2) + (List.length (((Go.Proofs.Ytagjaiammndjoaa.VX.cut (Go.Proofs.Ytagjaiammndjoaa.VX.getAt (([] : List (Bool × Int)), false) x.1 (Go.Proofs.Ytagjaiammndjoaa.VX.toN x.2.2.1)).1 (Go.Proofs.Ytagjaiammndjoaa.VX.toN (0 : Int)) ((Go.Proofs.Ytagjaiammndjoaa.VX.toN (Min.min (((List.length (Go.Proofs.Ytagjaiammndjoaa.VX.getAt (([] : List (Bool × Int)), false) x.1 (Go.Proofs.Ytagjaiammndjoaa.VX.toN x.2.2.1)).1) : Nat) : Int) (6 : Int))) - (Go.Proofs.Ytagjaiammndjoaa.VX.toN (0 : Int)))), (Go.Proofs.Ytagjaiammndjoaa.VX.getAt (([] : List (Bool × Int)), false) x.1 (Go.Proofs.Ytagjaiammndjoaa.VX.toN x.2.2.1)).2) :: ([] : List ((List (Bool × Int)) × Bool)))))) then
          some (.inl (x.1, (x.2.1, ((Go.IntKind.wrap Go.IntKind.i64 (x.2.2.1 + (1 : Int))), (x.2.2.2.1, (x.2.2.2.2.1, (x.2.2.2.2.2.1, (x.2.2.2.2.2.2.1, (x.2.2.2.2.2.2.2 ++ (((Go.Proofs.Ytagjaiammndjoaa.VX.cut (Go.Proofs.Ytagjaiammndjoaa.VX.getAt (([] : List (Bool × Int)), false) x.1 (Go.Proofs.Ytagjaiammndjoaa.VX.toN x.2.2.1)).1 (Go.Proofs.Ytagjaiammndjoaa.VX.toN (0 : Int)) ((Go.Proofs.Ytagjaiammndjoaa.VX.toN (Min.min (((List.length (Go.Proofs.Ytagjaiammndjoaa.VX.getAt (([] : List (Bool × Int)), false) x.1 (Go.Proofs.Ytagjaiammndjoaa.VX.toN x.2.2.1)).1) : Nat) : Int) (6 : Int))) - (Go.Proofs.Ytagjaiammndjoaa.VX.toN (0 : Int)))), (Go.Proofs.Ytagjaiammndjoaa.VX.getAt (([] : List (Bool × Int)), false) x.1 (Go.Proofs.Ytagjaiammndjoaa.VX.toN x.2.2.1)).2) :: ([] : List ((List (Bool × Int)) × Bool))))))))))))
        else
          none
      else
        none
    else
      none
  else
    some (.inr (x.2.2.2.1, (x.2.2.2.2.1, (x.2.2.2.2.2.1, (x.2.2.2.2.2.2.1, x.2.2.2.2.2.2.2)))))
noncomputable def cx_plaitlaw06_few_5 : Ctx := { tb := mkTb T2.tbl, fx := [], sum := [], nt := 68, pin := 0, nr := true, ys := [] }
theorem L_plaitlaw06_few_5_ok : CSound Try.prog ⟨68, 0, true⟩ (.loop (loopOf 5 Try.f10)) (pieceSpec sh_plaitlaw06_few_5 es_plaitlaw06_few_5 (loop L_plaitlaw06_few_5)) :=
  loop_sound (C := cx_plaitlaw06_few_5) (ctxOK mixed tbl_ok rfl trivial trivial) (SumOK.of trivial) sh_plaitlaw06_few_5 es_plaitlaw06_few_5 rfl rfl L_plaitlaw06_few_5 (fun x => by kernel_rfl)
abbrev sh_plaitlaw06_few_12 : Shape := { sl := [(1, (.ptr 0 [])), (2, (.ptr 1 [])), (3, (.sl 2)), (6, (.sl 3)), (48, (.hole (.slice (.slice (.pair (.int .i64) (.pair (.int .i64) (.int .i64))))))), (49, (.hole (.int .i64))), (50, (.hole (.int .i64)))], bl := [.var (.hole (.pair (.slice (.int .i64)) (.pair (.int .i64) (.pair (.int .i64) (.pair (.int .i64) (.pair (.slice (.pair (.slice (.pair .bool (.int .i64))) .bool)) (.slice (.slice (.pair (.int .i64) (.pair (.int .i64) (.int .i64))))))))))), .var (.pr .nl (.pr (.hole (.int .i64)) (.pr (.hole (.int .i64)) (.pr (.hole (.int .i64)) (.pr .nl .nl))))), .row (.pair (.slice (.pair .bool (.int .i64))) .bool), .row (.slice (.pair (.int .i64) (.pair (.int .i64) (.int .i64))))], ts := [(.slice (.slice (.pair (.int .i64) (.pair (.int .i64) (.int .i64))))), (.int .i64), (.int .i64), (.pair (.slice (.int .i64)) (.pair (.int .i64) (.pair (.int .i64) (.pair (.int .i64) (.pair (.slice (.pair (.slice (.pair .bool (.int .i64))) .bool)) (.slice (.slice (.pair (.int .i64) (.pair (.int .i64) (.int .i64)))))))))), (.int .i64), (.int .i64), (.int .i64), (.slice (.pair (.slice (.pair .bool (.int .i64))) .bool)), (.slice (.slice (.pair (.int .i64) (.pair (.int .i64) (.int .i64)))))], pin := 0 }
abbrev es_plaitlaw06_few_12 : List (ETag × Shape) := [(.exit 2, { sl := [(1, (.ptr 0 [])), (2, (.ptr 1 [])), (3, (.sl 2)), (6, (.sl 3))], bl := [.var (.hole (.pair (.slice (.int .i64)) (.pair (.int .i64) (.pair (.int .i64) (.pair (.int .i64) (.pair (.slice (.pair (.slice (.pair .bool (.int .i64))) .bool)) (.slice (.slice (.pair (.int .i64) (.pair (.int .i64) (.int .i64))))))))))), .var (.pr .nl (.pr (.hole (.int .i64)) (.pr (.hole (.int .i64)) (.pr (.hole (.int .i64)) (.pr .nl .nl))))), .row (.pair (.slice (.pair .bool (.int .i64))) .bool), .row (.slice (.pair (.int .i64) (.pair (.int .i64) (.int .i64))))], ts := [(.pair (.slice (.int .i64)) (.pair (.int .i64) (.pair (.int .i64) (.pair (.int .i64) (.pair (.slice (.pair (.slice (.pair .bool (.int .i64))) .bool)) (.slice (.slice (.pair (.int .i64) (.pair (.int .i64) (.int .i64)))))))))), (.int .i64), (.int .i64), (.int .i64), (.slice (.pair (.slice (.pair .bool (.int .i64))) .bool)), (.slice (.slice (.pair (.int .i64) (.pair (.int .i64) (.int .i64)))))], pin := 0 })]
noncomputable def L_plaitlaw06_few_12 (x : (List (List ((Int × (Int × Int)))) × Int × Int × (List (Int) × (Int × (Int × (Int × (List ((List ((Bool × Int)) × Bool)) × List (List ((Int × (Int × Int))))))))) × Int × Int × Int × List ((List ((Bool × Int)) × Bool)) × List (List ((Int × (Int × Int)))))) : Option ((List (List ((Int × (Int × Int)))) × Int × Int × (List (Int) × (Int × (Int × (Int × (List ((List ((Bool × Int)) × Bool)) × List (List ((Int × (Int × Int))))))))) × Int × Int × Int × List ((List ((Bool × Int)) × Bool)) × List (List ((Int × (Int × Int))))) ⊕ (((List (Int) × (Int × (Int × (Int × (List ((List ((Bool × Int)) × Bool)) × List (List ((Int × (Int × Int))))))))) × Int × Int × Int × List ((List ((Bool × Int)) × Bool)) × List (List ((Int × (Int × Int))))))) :=
  bif (decide (x.2.2.1 < x.2.1)) then
    bif (Go.Proofs.Ytagjaiammndjoaa.VX.inb x.2.2.1 (List.length x.1)) then
      bif (Go.Proofs.Ytagjaiammndjoaa.VX.sub3 (0 : Int) (Min.min (((List.length (Go.Proofs.Ytagjaiammndjoaa.VX.getAt ([] : List (Int × (Int × Int))) x.1 (Go.Proofs.Ytagjaiammndjoaa.VX.toN x.2.2.1))) : Nat) : Int) (30 : Int)) (List.length (Go.Proofs.Ytagjaiammndjoaa.VX.getAt ([] : List (Int × (Int × Int))) x.1 (Go.Proofs.Ytagjaiammndjoaa.VX.toN x.2.2.1)))) then
        bif (Go.Proofs.Ytagjaiammndjoaa.VX.fits ((List.length x.2.2.2.2.2.2.2.2) + (List.length ((Go.Proofs.Ytagjaiammndjoaa.VX.cut (Go.Proofs.Ytagjaiammndjoaa.VX.getAt ([] : List (Int × (Int × Int))) x.1 (Go.Proofs.Ytagjaiammndjoaa.VX.toN x.2.2.1)) (Go.Proofs.Ytagjaiammndjoaa.VX.toN (0 : Int)) ((Go.Proofs.Ytagjaiammndjoaa.VX.toN (Min.min (((List.length (Go.Proofs.Ytagjaiammndjoaa.VX.getAt ([] : List (Int × (Int × Int))) x.1 (Go.Proofs.Ytagjaiammndjoaa.VX.toN x.2.2.1))) : Nat) : Int) (30 : Int))) - (Go.Proofs.Ytagjaiammndjoaa.VX.toN (0 : Int)))) :: ([] : List (List (Int × (Int × Int)))))))) then
          some (.inl (x.1, (x.2.1, ((Go.IntKind.wrap Go.IntKind.i64 (x.2.2.1 + (1 : Int))), (x.2.2.2.1, (x.2.2.2.2.1, (x.2.2.2.2.2.1, (x.2.2.2.2.2.2.1, (x.2.2.2.2.2.2.2.1, (x.2.2.2.2.2.2.2.2 ++ ((Go.Proofs.Ytagjaiammndjoaa.VX.cut (Go.Proofs.Ytagjaiammndjoaa.VX.getAt ([] : List (Int × (Int × Int))) x.1 (Go.Proofs.Ytagjaiammndjoaa.VX.toN x.2.2.1)) (Go.Proofs.Ytagjaiammndjoaa.VX.toN (0 : Int)) ((Go.Proofs.Ytagjaiammndjoaa.VX.toN (Min.min (((List.length (Go.Proofs.Ytagjaiammndjoaa.VX.getAt ([] : List (Int × (Int × Int))) x.1 (Go.Proofs.Ytagjaiammndjoaa.VX.toN x.2.2.1))) : Nat) : Int) (30 : Int))) - (Go.Proofs.Ytagjaiammndjoaa.VX.toN (0 : Int)))) :: ([] : List (List (Int × (Int × Int)))))))))))))))
        else
          none
      else
        none
    else
      none
  else
    some (.inr (x.2.2.2.1, (x.2.2.2.2.1, (x.2.2.2.2.2.1, (x.2.2.2.2.2.2.1, (x.2.2.2.2.2.2.2.1, x.2.2.2.2.2.2.2.2))))))
noncomputable def cx_plaitlaw06_few_12 : Ctx := { tb := mkTb T2.tbl, fx := [], sum := [(0, 5, pieceSpec sh_plaitlaw06_few_5 es_plaitlaw06_few_5 (loop L_plaitlaw06_few_5))], nt := 68, pin := 0, nr := true, ys := [] }
theorem L_plaitlaw06_few_12_ok : CSound Try.prog ⟨68, 0, true⟩ (.loop (loopOf 12 Try.f10)) (pieceSpec sh_plaitlaw06_few_12 es_plaitlaw06_few_12 (loop L_plaitlaw06_few_12)) :=
  loop_sound (C := cx_plaitlaw06_few_12) (ctxOK mixed tbl_ok rfl trivial trivial) (SumOK.of ⟨(pieces_none (by kernel_rfl)), trivial⟩) sh_plaitlaw06_few_12 es_plaitlaw06_few_12 rfl rfl L_plaitlaw06_few_12 (fun x => by kernel_rfl)
abbrev si_plaitlaw06_few : Shape := { sl := [(0, (.hole (.pair (.slice (.int .i64)) (.pair (.int .i64) (.pair (.int .i64) (.pair (.int .i64) (.pair (.slice (.pair (.slice (.pair .bool (.int .i64))) .bool)) (.slice (.slice (.pair (.int .i64) (.pair (.int .i64) (.int .i64))))))))))))], bl := [], ts := [(.pair (.slice (.int .i64)) (.pair (.int .i64) (.pair (.int .i64) (.pair (.int .i64) (.pair (.slice (.pair (.slice (.pair .bool (.int .i64))) .bool)) (.slice (.slice (.pair (.int .i64) (.pair (.int .i64) (.int .i64))))))))))], pin := 0 }
abbrev so_plaitlaw06_few : Shape := { sl := [(0, (.hole (.pair (.slice (.int .i64)) (.pair (.int .i64) (.pair (.int .i64) (.pair (.int .i64) (.pair (.slice (.pair (.slice (.pair .bool (.int .i64))) .bool)) (.slice (.slice (.pair (.int .i64) (.pair (.int .i64) (.int .i64))))))))))))], bl := [], ts := [(.pair (.slice (.int .i64)) (.pair (.int .i64) (.pair (.int .i64) (.pair (.int .i64) (.pair (.slice (.pair (.slice (.pair .bool (.int .i64))) .bool)) (.slice (.slice (.pair (.int .i64) (.pair (.int .i64) (.int .i64))))))))))], pin := 0 }
noncomputable def F_plaitlaw06_few (x : ((List (Int) × (Int × (Int × (Int × (List ((List ((Bool × Int)) × Bool)) × List (List ((Int × (Int × Int))))))))))) : Option ((List (Int) × (Int × (Int × (Int × (List ((List ((Bool × Int)) × Bool)) × List (List ((Int × (Int × Int)))))))))) :=
  bif (Go.Proofs.Ytagjaiammndjoaa.VX.sub3 (0 : Int) (Min.min (((List.length x.1) : Nat) : Int) (6 : Int)) (List.length x.1)) then
    bif (Go.Proofs.Ytagjaiammndjoaa.VX.sub3 (0 : Int) (Min.min (((List.length x.2.2.2.2.1) : Nat) : Int) (6 : Int)) (List.length x.2.2.2.2.1)) then
      ((loop L_plaitlaw06_few_5 ((Go.Proofs.Ytagjaiammndjoaa.VX.cut x.2.2.2.2.1 (Go.Proofs.Ytagjaiammndjoaa.VX.toN (0 : Int)) ((Go.Proofs.Ytagjaiammndjoaa.VX.toN (Min.min (((List.length x.2.2.2.2.1) : Nat) : Int) (6 : Int))) - (Go.Proofs.Ytagjaiammndjoaa.VX.toN (0 : Int)))), ((((List.length (Go.Proofs.Ytagjaiammndjoaa.VX.cut x.2.2.2.2.1 (Go.Proofs.Ytagjaiammndjoaa.VX.toN (0 : Int)) ((Go.Proofs.Ytagjaiammndjoaa.VX.toN (Min.min (((List.length x.2.2.2.2.1) : Nat) : Int) (6 : Int))) - (Go.Proofs.Ytagjaiammndjoaa.VX.toN (0 : Int))))) : Nat) : Int), ((0 : Int), (((Go.Proofs.Ytagjaiammndjoaa.VX.cut x.1 (Go.Proofs.Ytagjaiammndjoaa.VX.toN (0 : Int)) ((Go.Proofs.Ytagjaiammndjoaa.VX.toN (Min.min (((List.length x.1) : Nat) : Int) (6 : Int))) - (Go.Proofs.Ytagjaiammndjoaa.VX.toN (0 : Int)))), x.2), ((0 : Int), ((0 : Int), ((0 : Int), ([] : List ((List (Bool × Int)) × Bool))))))))))).bind fun r2 =>
      bif (Go.Proofs.Ytagjaiammndjoaa.VX.sub3 (0 : Int) (Min.min (((List.length r2.1.2.2.2.2.2) : Nat) : Int) (8 : Int)) (List.length r2.1.2.2.2.2.2)) then
        ((loop L_plaitlaw06_few_12 ((Go.Proofs.Ytagjaiammndjoaa.VX.cut r2.1.2.2.2.2.2 (Go.Proofs.Ytagjaiammndjoaa.VX.toN (0 : Int)) ((Go.Proofs.Ytagjaiammndjoaa.VX.toN (Min.min (((List.length r2.1.2.2.2.2.2) : Nat) : Int) (8 : Int))) - (Go.Proofs.Ytagjaiammndjoaa.VX.toN (0 : Int)))), ((((List.length (Go.Proofs.Ytagjaiammndjoaa.VX.cut r2.1.2.2.2.2.2 (Go.Proofs.Ytagjaiammndjoaa.VX.toN (0 : Int)) ((Go.Proofs.Ytagjaiammndjoaa.VX.toN (Min.min (((List.length r2.1.2.2.2.2.2) : Nat) : Int) (8 : Int))) - (Go.Proofs.Ytagjaiammndjoaa.VX.toN (0 : Int))))) : Nat) : Int), ((0 : Int), (r2.1, (r2.2.1, (r2.2.2.1, (r2.2.2.2.1, (r2.2.2.2.2, ([] : List (List (Int × (Int × Int)))))))))))))).bind fun r3 =>
        some (r3.1.1, (r3.1.2.1, (r3.1.2.2.1, (r3.1.2.2.2.1, (r3.2.2.2.2.1, r3.2.2.2.2.2)))))
      else
        none
    else
      none
  else
    none
noncomputable def cx_plaitlaw06_few : Ctx := { tb := mkTb T2.tbl, fx := [], sum := [(0, 5, pieceSpec sh_plaitlaw06_few_5 es_plaitlaw06_few_5 (loop L_plaitlaw06_few_5)), (0, 12, pieceSpec sh_plaitlaw06_few_12 es_plaitlaw06_few_12 (loop L_plaitlaw06_few_12))], nt := 68, pin := 0, nr := true, ys := [] }
theorem F_plaitlaw06_few_ok : Sound Try.prog 10 (Spec.shp si_plaitlaw06_few so_plaitlaw06_few F_plaitlaw06_few) :=
  Sound.shp (C := cx_plaitlaw06_few) (fn := Try.f10) (by kernel_rfl) (c := bodyOf Try.f10) (by kernel_rfl) (by decide) (ctxOK mixed tbl_ok rfl trivial trivial) (SumOK.of ⟨(pieces_one (d := .loop (loopOf 5 Try.f10)) (by kernel_rfl) L_plaitlaw06_few_5_ok), (pieces_one (d := .loop (loopOf 12 Try.f10)) (by kernel_rfl) L_plaitlaw06_few_12_ok), trivial⟩) (by kernel_rfl) si_plaitlaw06_few so_plaitlaw06_few rfl (by decide) (by decide) rfl (by decide) rfl F_plaitlaw06_few (fun x => by kernel_rfl)
abbrev si_prog_in : Shape := { sl := [(0, (.hole (.int .i64))), (1, (.hole (.int .i64))), (2, (.hole (.int .i64)))], bl := [], ts := [(.int .i64), (.int .i64), (.int .i64)], pin := 0 }
abbrev so_prog_in : Shape := { sl := [(0, (.hole .bool))], bl := [], ts := [.bool], pin := 0 }
noncomputable def F_prog_in (x : (Int × Int × Int)) : Option (Bool) :=
  bif (decide (x.1 ≥ x.2.1)) then
    some (decide (x.1 ≤ x.2.2))
  else
    some false
noncomputable def cx_prog_in : Ctx := { tb := mkTb T2.tbl, fx := [], sum := [], nt := 15, pin := 0, nr := true, ys := [] }
theorem F_prog_in_ok : Sound Try.prog 29 (Spec.shp si_prog_in so_prog_in F_prog_in) :=
  Sound.shp (C := cx_prog_in) (fn := Try.f29) (by kernel_rfl) (c := bodyOf Try.f29) (by kernel_rfl) (by decide) (ctxOK mixed tbl_ok rfl trivial trivial) (SumOK.of trivial) (by kernel_rfl) si_prog_in so_prog_in rfl (by decide) (by decide) rfl (by decide) rfl F_prog_in (fun x => by kernel_rfl)
abbrev si_prog_tables_1 : Shape := { sl := [(0, (.hole (.int .i64)))], bl := [], ts := [(.int .i64)], pin := 0 }
abbrev so_prog_tables_1 : Shape := { sl := [(0, (.hole .bool))], bl := [], ts := [.bool], pin := 0 }
noncomputable def F_prog_tables_1 (x : (Int)) : Option (Bool) :=
  ((F_prog_in (x, ((Int.negSucc 0), (3 : Int))))).bind fun r13 =>
  some (Bool.not r13)
noncomputable def cx_prog_tables_1 : Ctx := { tb := mkTb T2.tbl, fx := [(29, [], Spec.shp si_prog_in so_prog_in F_prog_in)], sum := [], nt := 6, pin := 0, nr := true, ys := [] }
theorem F_prog_tables_1_ok : Sound Try.prog 63 (Spec.shp si_prog_tables_1 so_prog_tables_1 F_prog_tables_1) :=
  Sound.shp (C := cx_prog_tables_1) (fn := Try.f63) (by kernel_rfl) (c := bodyOf Try.f63) (by kernel_rfl) (by decide) (ctxOK mixed tbl_ok rfl ⟨F_prog_in_ok, trivial⟩ trivial) (SumOK.of trivial) (by kernel_rfl) si_prog_tables_1 so_prog_tables_1 rfl (by decide) (by decide) rfl (by decide) rfl F_prog_tables_1 (fun x => by kernel_rfl)
abbrev sh_slices_IndexFunc_int__prog_tables_1_3 : Shape := { sl := [(0, (.hole (.slice (.int .i64)))), (1, (.fn 63 .nil .nil)), (7, (.hole (.int .i64))), (8, (.hole (.int .i64)))], bl := [], ts := [(.slice (.int .i64)), (.int .i64), (.int .i64)], pin := 0 }
abbrev es_slices_IndexFunc_int__prog_tables_1_3 : List (ETag × Shape) := [(.ret, { sl := [(4, (.hole (.int .i64)))], bl := [], ts := [(.int .i64)], pin := 0 }), (.exit 0, { sl := [], bl := [], ts := [], pin := 0 })]
noncomputable def L_slices_IndexFunc_int__prog_tables_1_3 (x : (List (Int) × Int × Int)) : Option ((List (Int) × Int × Int) ⊕ ((Int) ⊕ Unit)) :=
  bif (decide (x.2.2 < x.2.1)) then
    bif (Go.Proofs.Ytagjaiammndjoaa.VX.inb x.2.2 (List.length x.1)) then
      ((F_prog_tables_1 (Go.Proofs.Ytagjaiammndjoaa.VX.getAt (0 : Int) x.1 (Go.Proofs.Ytagjaiammndjoaa.VX.toN x.2.2)))).bind fun r12 =>
      bif r12 then
        some (.inr (.inl x.2.2))
      else
        some (.inl (x.1, (x.2.1, (Go.IntKind.wrap Go.IntKind.i64 (x.2.2 + (1 : Int))))))
    else
      none
  else
    some (.inr (.inr ()))
noncomputable def cx_slices_IndexFunc_int__prog_tables_1_3 : Ctx := { tb := mkTb T2.tbl, fx := [(63, [], Spec.shp si_prog_tables_1 so_prog_tables_1 F_prog_tables_1)], sum := [], nt := 19, pin := 0, nr := true, ys := [] }
theorem L_slices_IndexFunc_int__prog_tables_1_3_ok : CSound Try.prog ⟨19, 0, true⟩ (.loop (loopOf 3 Try.f76)) (pieceSpec sh_slices_IndexFunc_int__prog_tables_1_3 es_slices_IndexFunc_int__prog_tables_1_3 (loop L_slices_IndexFunc_int__prog_tables_1_3)) :=
  loop_sound (C := cx_slices_IndexFunc_int__prog_tables_1_3) (ctxOK mixed tbl_ok rfl ⟨F_prog_tables_1_ok, trivial⟩ trivial) (SumOK.of trivial) sh_slices_IndexFunc_int__prog_tables_1_3 es_slices_IndexFunc_int__prog_tables_1_3 rfl rfl L_slices_IndexFunc_int__prog_tables_1_3 (fun x => by kernel_rfl)
abbrev si_slices_IndexFunc_int__prog_tables_1 : Shape := { sl := [(0, (.hole (.slice (.int .i64)))), (1, (.fn 63 .nil .nil))], bl := [], ts := [(.slice (.int .i64))], pin := 0 }
abbrev so_slices_IndexFunc_int__prog_tables_1 : Shape := { sl := [(0, (.hole (.int .i64)))], bl := [], ts := [(.int .i64)], pin := 0 }
noncomputable def F_slices_IndexFunc_int__prog_tables_1 (x : (List (Int))) : Option (Int) :=
  ((loop L_slices_IndexFunc_int__prog_tables_1_3 (x, ((((List.length x) : Nat) : Int), (0 : Int))))).bind fun r11 =>
  match r11 with
  | .inl y12 =>
    some y12
  | .inr y12 =>
    some (Int.negSucc 0)
noncomputable def cx_slices_IndexFunc_int__prog_tables_1 : Ctx := { tb := mkTb T2.tbl, fx := [(63, [], Spec.shp si_prog_tables_1 so_prog_tables_1 F_prog_tables_1)], sum := [(0, 3, pieceSpec sh_slices_IndexFunc_int__prog_tables_1_3 es_slices_IndexFunc_int__prog_tables_1_3 (loop L_slices_IndexFunc_int__prog_tables_1_3))], nt := 19, pin := 0, nr := true, ys := [] }
theorem F_slices_IndexFunc_int__prog_tables_1_ok : Sound Try.prog 76 (Spec.shp si_slices_IndexFunc_int__prog_tables_1 so_slices_IndexFunc_int__prog_tables_1 F_slices_IndexFunc_int__prog_tables_1) :=
  Sound.shp (C := cx_slices_IndexFunc_int__prog_tables_1) (fn := Try.f76) (by kernel_rfl) (c := bodyOf Try.f76) (by kernel_rfl) (by decide) (ctxOK mixed tbl_ok rfl ⟨F_prog_tables_1_ok, trivial⟩ trivial) (SumOK.of ⟨(pieces_one (d := .loop (loopOf 3 Try.f76)) (by kernel_rfl) L_slices_IndexFunc_int__prog_tables_1_3_ok), trivial⟩) (by kernel_rfl) si_slices_IndexFunc_int__prog_tables_1 so_slices_IndexFunc_int__prog_tables_1 rfl (by decide) (by decide) rfl (by decide) rfl F_slices_IndexFunc_int__prog_tables_1 (fun x => by kernel_rfl)
abbrev si_slices_ContainsFunc_int__prog_tables_1 : Shape := { sl := [(0, (.hole (.slice (.int .i64)))), (1, (.fn 63 .nil .nil))], bl := [], ts := [(.slice (.int .i64))], pin := 0 }
abbrev so_slices_ContainsFunc_int__prog_tables_1 : Shape := { sl := [(0, (.hole .bool))], bl := [], ts := [.bool], pin := 0 }
noncomputable def F_slices_ContainsFunc_int__prog_tables_1 (x : (List (Int))) : Option (Bool) :=
  ((F_slices_IndexFunc_int__prog_tables_1 x)).bind fun r10 =>
  some (decide (r10 ≥ (0 : Int)))
noncomputable def cx_slices_ContainsFunc_int__prog_tables_1 : Ctx := { tb := mkTb T2.tbl, fx := [(76, [63], Spec.shp si_slices_IndexFunc_int__prog_tables_1 so_slices_IndexFunc_int__prog_tables_1 F_slices_IndexFunc_int__prog_tables_1)], sum := [], nt := 9, pin := 0, nr := true, ys := [] }
theorem F_slices_ContainsFunc_int__prog_tables_1_ok : Sound Try.prog 62 (Spec.shp si_slices_ContainsFunc_int__prog_tables_1 so_slices_ContainsFunc_int__prog_tables_1 F_slices_ContainsFunc_int__prog_tables_1) :=
  Sound.shp (C := cx_slices_ContainsFunc_int__prog_tables_1) (fn := Try.f62) (by kernel_rfl) (c := bodyOf Try.f62) (by kernel_rfl) (by decide) (ctxOK mixed tbl_ok rfl ⟨F_slices_IndexFunc_int__prog_tables_1_ok, trivial⟩ trivial) (SumOK.of trivial) (by kernel_rfl) si_slices_ContainsFunc_int__prog_tables_1 so_slices_ContainsFunc_int__prog_tables_1 rfl (by decide) (by decide) rfl (by decide) rfl F_slices_ContainsFunc_int__prog_tables_1 (fun x => by kernel_rfl)
abbrev si_prog_tables_2 : Shape := { sl := [(0, (.hole (.pair .bool (.int .i64)))), (1, (.ptr 0 []))], bl := [.var (.hole (.pair (.slice (.int .i64)) (.pair (.int .i64) (.pair (.int .i64) (.pair (.int .i64) (.pair (.slice (.pair (.slice (.pair .bool (.int .i64))) .bool)) (.slice (.slice (.pair (.int .i64) (.pair (.int .i64) (.int .i64)))))))))))], ts := [(.pair .bool (.int .i64)), (.pair (.slice (.int .i64)) (.pair (.int .i64) (.pair (.int .i64) (.pair (.int .i64) (.pair (.slice (.pair (.slice (.pair .bool (.int .i64))) .bool)) (.slice (.slice (.pair (.int .i64) (.pair (.int .i64) (.int .i64))))))))))], pin := 0 }
abbrev so_prog_tables_2 : Shape := { sl := [(0, (.hole .bool))], bl := [.var (.hole (.pair (.slice (.int .i64)) (.pair (.int .i64) (.pair (.int .i64) (.pair (.int .i64) (.pair (.slice (.pair (.slice (.pair .bool (.int .i64))) .bool)) (.slice (.slice (.pair (.int .i64) (.pair (.int .i64) (.int .i64)))))))))))], ts := [.bool, (.pair (.slice (.int .i64)) (.pair (.int .i64) (.pair (.int .i64) (.pair (.int .i64) (.pair (.slice (.pair (.slice (.pair .bool (.int .i64))) .bool)) (.slice (.slice (.pair (.int .i64) (.pair (.int .i64) (.int .i64))))))))))], pin := 1 }
noncomputable def F_prog_tables_2 (x : ((Bool × Int) × (List (Int) × (Int × (Int × (Int × (List ((List ((Bool × Int)) × Bool)) × List (List ((Int × (Int × Int))))))))))) : Option (Bool × (List (Int) × (Int × (Int × (Int × (List ((List ((Bool × Int)) × Bool)) × List (List ((Int × (Int × Int)))))))))) :=
  ((F_prog_in (x.1.2, ((0 : Int), (Go.IntKind.wrap Go.IntKind.i64 ((((List.length x.2.1) : Nat) : Int) - (1 : Int))))))).bind fun r15 =>
  some ((Bool.not r15), x.2)
noncomputable def cx_prog_tables_2 : Ctx := { tb := mkTb T2.tbl, fx := [(29, [], Spec.shp si_prog_in so_prog_in F_prog_in)], sum := [], nt := 12, pin := 1, nr := true, ys := [] }
theorem F_prog_tables_2_ok : Sound Try.prog 65 (Spec.shp si_prog_tables_2 so_prog_tables_2 F_prog_tables_2) :=
  Sound.shp (C := cx_prog_tables_2) (fn := Try.f65) (by kernel_rfl) (c := bodyOf Try.f65) (by kernel_rfl) (by decide) (ctxOK mixed tbl_ok rfl ⟨F_prog_in_ok, trivial⟩ trivial) (SumOK.of trivial) (by kernel_rfl) si_prog_tables_2 so_prog_tables_2 rfl (by decide) (by decide) rfl (by decide) rfl F_prog_tables_2 (fun x => by kernel_rfl)
abbrev sh_slices_IndexFunc_api_Case__prog_tables_2_3 : Shape := { sl := [(0, (.hole (.slice (.pair .bool (.int .i64))))), (1, (.fn 65 .nil (.cons (.ptr 0 []) .nil))), (7, (.hole (.int .i64))), (8, (.hole (.int .i64)))], bl := [.var (.hole (.pair (.slice (.int .i64)) (.pair (.int .i64) (.pair (.int .i64) (.pair (.int .i64) (.pair (.slice (.pair (.slice (.pair .bool (.int .i64))) .bool)) (.slice (.slice (.pair (.int .i64) (.pair (.int .i64) (.int .i64)))))))))))], ts := [(.slice (.pair .bool (.int .i64))), (.int .i64), (.int .i64), (.pair (.slice (.int .i64)) (.pair (.int .i64) (.pair (.int .i64) (.pair (.int .i64) (.pair (.slice (.pair (.slice (.pair .bool (.int .i64))) .bool)) (.slice (.slice (.pair (.int .i64) (.pair (.int .i64) (.int .i64))))))))))], pin := 1 }
abbrev es_slices_IndexFunc_api_Case__prog_tables_2_3 : List (ETag × Shape) := [(.ret, { sl := [(4, (.hole (.int .i64)))], bl := [.var (.hole (.pair (.slice (.int .i64)) (.pair (.int .i64) (.pair (.int .i64) (.pair (.int .i64) (.pair (.slice (.pair (.slice (.pair .bool (.int .i64))) .bool)) (.slice (.slice (.pair (.int .i64) (.pair (.int .i64) (.int .i64)))))))))))], ts := [(.int .i64), (.pair (.slice (.int .i64)) (.pair (.int .i64) (.pair (.int .i64) (.pair (.int .i64) (.pair (.slice (.pair (.slice (.pair .bool (.int .i64))) .bool)) (.slice (.slice (.pair (.int .i64) (.pair (.int .i64) (.int .i64))))))))))], pin := 1 }), (.exit 0, { sl := [], bl := [.var (.hole (.pair (.slice (.int .i64)) (.pair (.int .i64) (.pair (.int .i64) (.pair (.int .i64) (.pair (.slice (.pair (.slice (.pair .bool (.int .i64))) .bool)) (.slice (.slice (.pair (.int .i64) (.pair (.int .i64) (.int .i64)))))))))))], ts := [(.pair (.slice (.int .i64)) (.pair (.int .i64) (.pair (.int .i64) (.pair (.int .i64) (.pair (.slice (.pair (.slice (.pair .bool (.int .i64))) .bool)) (.slice (.slice (.pair (.int .i64) (.pair (.int .i64) (.int .i64))))))))))], pin := 1 })]
noncomputable def L_slices_IndexFunc_api_Case__prog_tables_2_3 (x : (List ((Bool × Int)) × Int × Int × (List (Int) × (Int × (Int × (Int × (List ((List ((Bool × Int)) × Bool)) × List (List ((Int × (Int × Int))))))))))) : Option ((List ((Bool × Int)) × Int × Int × (List (Int) × (Int × (Int × (Int × (List ((List ((Bool × Int)) × Bool)) × List (List ((Int × (Int × Int)))))))))) ⊕ ((Int × (List (Int) × (Int × (Int × (Int × (List ((List ((Bool × Int)) × Bool)) × List (List ((Int × (Int × Int)))))))))) ⊕ ((List (Int) × (Int × (Int × (Int × (List ((List ((Bool × Int)) × Bool)) × List (List ((Int × (Int × Int)))))))))))) :=
  bif (decide (x.2.2.1 < x.2.1)) then
    bif (Go.Proofs.Ytagjaiammndjoaa.VX.inb x.2.2.1 (List.length x.1)) then
      ((F_prog_tables_2 ((Go.Proofs.Ytagjaiammndjoaa.VX.getAt (false, (0 : Int)) x.1 (Go.Proofs.Ytagjaiammndjoaa.VX.toN x.2.2.1)), x.2.2.2))).bind fun r14 =>
      bif r14.1 then
        some (.inr (.inl (x.2.2.1, r14.2)))
      else
        some (.inl (x.1, (x.2.1, ((Go.IntKind.wrap Go.IntKind.i64 (x.2.2.1 + (1 : Int))), r14.2))))
    else
      none
  else
    some (.inr (.inr x.2.2.2))
noncomputable def cx_slices_IndexFunc_api_Case__prog_tables_2_3 : Ctx := { tb := mkTb T2.tbl, fx := [(65, [], Spec.shp si_prog_tables_2 so_prog_tables_2 F_prog_tables_2)], sum := [], nt := 19, pin := 1, nr := true, ys := [] }
theorem L_slices_IndexFunc_api_Case__prog_tables_2_3_ok : CSound Try.prog ⟨19, 1, true⟩ (.loop (loopOf 3 Try.f77)) (pieceSpec sh_slices_IndexFunc_api_Case__prog_tables_2_3 es_slices_IndexFunc_api_Case__prog_tables_2_3 (loop L_slices_IndexFunc_api_Case__prog_tables_2_3)) :=
  loop_sound (C := cx_slices_IndexFunc_api_Case__prog_tables_2_3) (ctxOK mixed tbl_ok rfl ⟨F_prog_tables_2_ok, trivial⟩ trivial) (SumOK.of trivial) sh_slices_IndexFunc_api_Case__prog_tables_2_3 es_slices_IndexFunc_api_Case__prog_tables_2_3 rfl rfl L_slices_IndexFunc_api_Case__prog_tables_2_3 (fun x => by kernel_rfl)
abbrev si_slices_IndexFunc_api_Case__prog_tables_2 : Shape := { sl := [(0, (.hole (.slice (.pair .bool (.int .i64))))), (1, (.fn 65 .nil (.cons (.ptr 0 []) .nil)))], bl := [.var (.hole (.pair (.slice (.int .i64)) (.pair (.int .i64) (.pair (.int .i64) (.pair (.int .i64) (.pair (.slice (.pair (.slice (.pair .bool (.int .i64))) .bool)) (.slice (.slice (.pair (.int .i64) (.pair (.int .i64) (.int .i64)))))))))))], ts := [(.slice (.pair .bool (.int .i64))), (.pair (.slice (.int .i64)) (.pair (.int .i64) (.pair (.int .i64) (.pair (.int .i64) (.pair (.slice (.pair (.slice (.pair .bool (.int .i64))) .bool)) (.slice (.slice (.pair (.int .i64) (.pair (.int .i64) (.int .i64))))))))))], pin := 0 }
abbrev so_slices_IndexFunc_api_Case__prog_tables_2 : Shape := { sl := [(0, (.hole (.int .i64)))], bl := [.var (.hole (.pair (.slice (.int .i64)) (.pair (.int .i64) (.pair (.int .i64) (.pair (.int .i64) (.pair (.slice (.pair (.slice (.pair .bool (.int .i64))) .bool)) (.slice (.slice (.pair (.int .i64) (.pair (.int .i64) (.int .i64)))))))))))], ts := [(.int .i64), (.pair (.slice (.int .i64)) (.pair (.int .i64) (.pair (.int .i64) (.pair (.int .i64) (.pair (.slice (.pair (.slice (.pair .bool (.int .i64))) .bool)) (.slice (.slice (.pair (.int .i64) (.pair (.int .i64) (.int .i64))))))))))], pin := 1 }
noncomputable def F_slices_IndexFunc_api_Case__prog_tables_2 (x : (List ((Bool × Int)) × (List (Int) × (Int × (Int × (Int × (List ((List ((Bool × Int)) × Bool)) × List (List ((Int × (Int × Int))))))))))) : Option (Int × (List (Int) × (Int × (Int × (Int × (List ((List ((Bool × Int)) × Bool)) × List (List ((Int × (Int × Int)))))))))) :=
  ((loop L_slices_IndexFunc_api_Case__prog_tables_2_3 (x.1, ((((List.length x.1) : Nat) : Int), ((0 : Int), x.2))))).bind fun r13 =>
  match r13 with
  | .inl y14 =>
    some (y14.1, y14.2)
  | .inr y14 =>
    some ((Int.negSucc 0), y14)
noncomputable def cx_slices_IndexFunc_api_Case__prog_tables_2 : Ctx := { tb := mkTb T2.tbl, fx := [(65, [], Spec.shp si_prog_tables_2 so_prog_tables_2 F_prog_tables_2)], sum := [(0, 3, pieceSpec sh_slices_IndexFunc_api_Case__prog_tables_2_3 es_slices_IndexFunc_api_Case__prog_tables_2_3 (loop L_slices_IndexFunc_api_Case__prog_tables_2_3))], nt := 19, pin := 1, nr := true, ys := [] }
theorem F_slices_IndexFunc_api_Case__prog_tables_2_ok : Sound Try.prog 77 (Spec.shp si_slices_IndexFunc_api_Case__prog_tables_2 so_slices_IndexFunc_api_Case__prog_tables_2 F_slices_IndexFunc_api_Case__prog_tables_2) :=
  Sound.shp (C := cx_slices_IndexFunc_api_Case__prog_tables_2) (fn := Try.f77) (by kernel_rfl) (c := bodyOf Try.f77) (by kernel_rfl) (by decide) (ctxOK mixed tbl_ok rfl ⟨F_prog_tables_2_ok, trivial⟩ trivial) (SumOK.of ⟨(pieces_one (d := .loop (loopOf 3 Try.f77)) (by kernel_rfl) L_slices_IndexFunc_api_Case__prog_tables_2_3_ok), trivial⟩) (by kernel_rfl) si_slices_IndexFunc_api_Case__prog_tables_2 so_slices_IndexFunc_api_Case__prog_tables_2 rfl (by decide) (by decide) rfl (by decide) rfl F_slices_IndexFunc_api_Case__prog_tables_2 (fun x => by kernel_rfl)
abbrev si_slices_ContainsFunc_api_Case__prog_tables_2 : Shape := { sl := [(0, (.hole (.slice (.pair .bool (.int .i64))))), (1, (.fn 65 .nil (.cons (.ptr 0 []) .nil)))], bl := [.var (.hole (.pair (.slice (.int .i64)) (.pair (.int .i64) (.pair (.int .i64) (.pair (.int .i64) (.pair (.slice (.pair (.slice (.pair .bool (.int .i64))) .bool)) (.slice (.slice (.pair (.int .i64) (.pair (.int .i64) (.int .i64)))))))))))], ts := [(.slice (.pair .bool (.int .i64))), (.pair (.slice (.int .i64)) (.pair (.int .i64) (.pair (.int .i64) (.pair (.int .i64) (.pair (.slice (.pair (.slice (.pair .bool (.int .i64))) .bool)) (.slice (.slice (.pair (.int .i64) (.pair (.int .i64) (.int .i64))))))))))], pin := 0 }
abbrev so_slices_ContainsFunc_api_Case__prog_tables_2 : Shape := { sl := [(0, (.hole .bool))], bl := [.var (.hole (.pair (.slice (.int .i64)) (.pair (.int .i64) (.pair (.int .i64) (.pair (.int .i64) (.pair (.slice (.pair (.slice (.pair .bool (.int .i64))) .bool)) (.slice (.slice (.pair (.int .i64) (.pair (.int .i64) (.int .i64)))))))))))], ts := [.bool, (.pair (.slice (.int .i64)) (.pair (.int .i64) (.pair (.int .i64) (.pair (.int .i64) (.pair (.slice (.pair (.slice (.pair .bool (.int .i64))) .bool)) (.slice (.slice (.pair (.int .i64) (.pair (.int .i64) (.int .i64))))))))))], pin := 1 }
noncomputable def F_slices_ContainsFunc_api_Case__prog_tables_2 (x : (List ((Bool × Int)) × (List (Int) × (Int × (Int × (Int × (List ((List ((Bool × Int)) × Bool)) × List (List ((Int × (Int × Int))))))))))) : Option (Bool × (List (Int) × (Int × (Int × (Int × (List ((List ((Bool × Int)) × Bool)) × List (List ((Int × (Int × Int)))))))))) :=
  ((F_slices_IndexFunc_api_Case__prog_tables_2 (x.1, x.2))).bind fun r12 =>
  some ((decide (r12.1 ≥ (0 : Int))), r12.2)
noncomputable def cx_slices_ContainsFunc_api_Case__prog_tables_2 : Ctx := { tb := mkTb T2.tbl, fx := [(77, [65], Spec.shp si_slices_IndexFunc_api_Case__prog_tables_2 so_slices_IndexFunc_api_Case__prog_tables_2 F_slices_IndexFunc_api_Case__prog_tables_2)], sum := [], nt := 9, pin := 1, nr := true, ys := [] }
theorem F_slices_ContainsFunc_api_Case__prog_tables_2_ok : Sound Try.prog 64 (Spec.shp si_slices_ContainsFunc_api_Case__prog_tables_2 so_slices_ContainsFunc_api_Case__prog_tables_2 F_slices_ContainsFunc_api_Case__prog_tables_2) :=
  Sound.shp (C := cx_slices_ContainsFunc_api_Case__prog_tables_2) (fn := Try.f64) (by kernel_rfl) (c := bodyOf Try.f64) (by kernel_rfl) (by decide) (ctxOK mixed tbl_ok rfl ⟨F_slices_IndexFunc_api_Case__prog_tables_2_ok, trivial⟩ trivial) (SumOK.of trivial) (by kernel_rfl) si_slices_ContainsFunc_api_Case__prog_tables_2 so_slices_ContainsFunc_api_Case__prog_tables_2 rfl (by decide) (by decide) rfl (by decide) rfl F_slices_ContainsFunc_api_Case__prog_tables_2 (fun x => by kernel_rfl)
abbrev sh_prog_tables_8 : Shape := { sl := [(1, (.ptr 0 [])), (45, (.hole (.slice (.pair (.slice (.pair .bool (.int .i64))) .bool)))), (46, (.hole (.int .i64))), (47, (.hole (.int .i64)))], bl := [.var (.hole (.pair (.slice (.int .i64)) (.pair (.int .i64) (.pair (.int .i64) (.pair (.int .i64) (.pair (.slice (.pair (.slice (.pair .bool (.int .i64))) .bool)) (.slice (.slice (.pair (.int .i64) (.pair (.int .i64) (.int .i64)))))))))))], ts := [(.slice (.pair (.slice (.pair .bool (.int .i64))) .bool)), (.int .i64), (.int .i64), (.pair (.slice (.int .i64)) (.pair (.int .i64) (.pair (.int .i64) (.pair (.int .i64) (.pair (.slice (.pair (.slice (.pair .bool (.int .i64))) .bool)) (.slice (.slice (.pair (.int .i64) (.pair (.int .i64) (.int .i64))))))))))], pin := 0 }
abbrev es_prog_tables_8 : List (ETag × Shape) := [(.ret, { sl := [(2, (.hole (.int .i64))), (3, (.hole (.int .i64)))], bl := [], ts := [(.int .i64), (.int .i64)], pin := 0 }), (.exit 0, { sl := [], bl := [], ts := [], pin := 0 })]
noncomputable def L_prog_tables_8 (x : (List ((List ((Bool × Int)) × Bool)) × Int × Int × (List (Int) × (Int × (Int × (Int × (List ((List ((Bool × Int)) × Bool)) × List (List ((Int × (Int × Int))))))))))) : Option ((List ((List ((Bool × Int)) × Bool)) × Int × Int × (List (Int) × (Int × (Int × (Int × (List ((List ((Bool × Int)) × Bool)) × List (List ((Int × (Int × Int)))))))))) ⊕ ((Int × Int) ⊕ Unit)) :=
  bif (decide (x.2.2.1 < x.2.1)) then
    bif (Go.Proofs.Ytagjaiammndjoaa.VX.inb x.2.2.1 (List.length x.1)) then
      bif (decide ((((List.length (Go.Proofs.Ytagjaiammndjoaa.VX.getAt (([] : List (Bool × Int)), false) x.1 (Go.Proofs.Ytagjaiammndjoaa.VX.toN x.2.2.1)).1) : Nat) : Int) > (4 : Int))) then
        some (.inr (.inl (x.2.2.1, (2 : Int))))
      else
        ((F_slices_ContainsFunc_api_Case__prog_tables_2 ((Go.Proofs.Ytagjaiammndjoaa.VX.getAt (([] : List (Bool × Int)), false) x.1 (Go.Proofs.Ytagjaiammndjoaa.VX.toN x.2.2.1)).1, x.2.2.2))).bind fun r11 =>
        bif r11.1 then
          some (.inr (.inl (x.2.2.1, (3 : Int))))
        else
          some (.inl (x.1, (x.2.1, ((Go.IntKind.wrap Go.IntKind.i64 (x.2.2.1 + (1 : Int))), r11.2))))
    else
      none
  else
    some (.inr (.inr ()))
noncomputable def cx_prog_tables_8 : Ctx := { tb := mkTb T2.tbl, fx := [(29, [], Spec.shp si_prog_in so_prog_in F_prog_in), (62, [63], Spec.shp si_slices_ContainsFunc_int__prog_tables_1 so_slices_ContainsFunc_int__prog_tables_1 F_slices_ContainsFunc_int__prog_tables_1), (64, [65], Spec.shp si_slices_ContainsFunc_api_Case__prog_tables_2 so_slices_ContainsFunc_api_Case__prog_tables_2 F_slices_ContainsFunc_api_Case__prog_tables_2)], sum := [], nt := 65, pin := 0, nr := true, ys := [] }
theorem L_prog_tables_8_ok : CSound Try.prog ⟨65, 0, true⟩ (.loop (loopOf 8 Try.f41)) (pieceSpec sh_prog_tables_8 es_prog_tables_8 (loop L_prog_tables_8)) :=
  loop_sound (C := cx_prog_tables_8) (ctxOK mixed tbl_ok rfl ⟨F_prog_in_ok, F_slices_ContainsFunc_int__prog_tables_1_ok, F_slices_ContainsFunc_api_Case__prog_tables_2_ok, trivial⟩ trivial) (SumOK.of trivial) sh_prog_tables_8 es_prog_tables_8 rfl rfl L_prog_tables_8 (fun x => by kernel_rfl)
abbrev si_prog_tables : Shape := { sl := [(0, (.hole (.pair (.slice (.int .i64)) (.pair (.int .i64) (.pair (.int .i64) (.pair (.int .i64) (.pair (.slice (.pair (.slice (.pair .bool (.int .i64))) .bool)) (.slice (.slice (.pair (.int .i64) (.pair (.int .i64) (.int .i64))))))))))))], bl := [], ts := [(.pair (.slice (.int .i64)) (.pair (.int .i64) (.pair (.int .i64) (.pair (.int .i64) (.pair (.slice (.pair (.slice (.pair .bool (.int .i64))) .bool)) (.slice (.slice (.pair (.int .i64) (.pair (.int .i64) (.int .i64))))))))))], pin := 0 }
abbrev so_prog_tables : Shape := { sl := [(0, (.hole (.int .i64))), (1, (.hole (.int .i64)))], bl := [], ts := [(.int .i64), (.int .i64)], pin := 0 }
noncomputable def F_prog_tables (x : ((List (Int) × (Int × (Int × (Int × (List ((List ((Bool × Int)) × Bool)) × List (List ((Int × (Int × Int))))))))))) : Option (Int × Int) :=
  bif (decide ((((List.length x.1) : Nat) : Int) ≤ (4 : Int))) then
    ((F_prog_in (x.2.1, ((0 : Int), (2 : Int))))).bind fun r5 =>
    bif r5 then
      ((F_prog_in (x.2.2.1, ((0 : Int), (2 : Int))))).bind fun r6 =>
      bif r6 then
        ((F_prog_in (x.2.2.2.1, ((0 : Int), (4 : Int))))).bind fun r7 =>
        bif (Bool.not r7) then
          some ((Int.negSucc 0), (2 : Int))
        else
          bif (decide ((((List.length x.2.2.2.2.1) : Nat) : Int) > (4 : Int))) then
            some ((Int.negSucc 0), (2 : Int))
          else
            ((F_prog_in ((((List.length x.2.2.2.2.2) : Nat) : Int), ((1 : Int), (6 : Int))))).bind fun r8 =>
            bif (Bool.not r8) then
              some ((Int.negSucc 0), (2 : Int))
            else
              ((F_slices_ContainsFunc_int__prog_tables_1 x.1)).bind fun r9 =>
              bif r9 then
                some ((Int.negSucc 0), (3 : Int))
              else
                ((loop L_prog_tables_8 (x.2.2.2.2.1, ((((List.length x.2.2.2.2.1) : Nat) : Int), ((0 : Int), x))))).bind fun r10 =>
                match r10 with
                | .inl y11 =>
                  some (y11.1, y11.2)
                | .inr y11 =>
                  some ((Int.negSucc 0), (0 : Int))
      else
        some ((Int.negSucc 0), (2 : Int))
    else
      some ((Int.negSucc 0), (2 : Int))
  else
    some ((Int.negSucc 0), (2 : Int))
noncomputable def cx_prog_tables : Ctx := { tb := mkTb T2.tbl, fx := [(29, [], Spec.shp si_prog_in so_prog_in F_prog_in), (62, [63], Spec.shp si_slices_ContainsFunc_int__prog_tables_1 so_slices_ContainsFunc_int__prog_tables_1 F_slices_ContainsFunc_int__prog_tables_1), (64, [65], Spec.shp si_slices_ContainsFunc_api_Case__prog_tables_2 so_slices_ContainsFunc_api_Case__prog_tables_2 F_slices_ContainsFunc_api_Case__prog_tables_2)], sum := [(0, 8, pieceSpec sh_prog_tables_8 es_prog_tables_8 (loop L_prog_tables_8))], nt := 65, pin := 0, nr := true, ys := [] }
theorem F_prog_tables_ok : Sound Try.prog 41 (Spec.shp si_prog_tables so_prog_tables F_prog_tables) :=
  Sound.shp (C := cx_prog_tables) (fn := Try.f41) (by kernel_rfl) (c := bodyOf Try.f41) (by kernel_rfl) (by decide) (ctxOK mixed tbl_ok rfl ⟨F_prog_in_ok, F_slices_ContainsFunc_int__prog_tables_1_ok, F_slices_ContainsFunc_api_Case__prog_tables_2_ok, trivial⟩ trivial) (SumOK.of ⟨(pieces_one (d := .loop (loopOf 8 Try.f41)) (by kernel_rfl) L_prog_tables_8_ok), trivial⟩) (by kernel_rfl) si_prog_tables so_prog_tables rfl (by decide) (by decide) rfl (by decide) rfl F_prog_tables (fun x => by kernel_rfl)
abbrev si_prog_ops : Shape := { sl := [], bl := [], ts := [], pin := 0 }
abbrev so_prog_ops : Shape := { sl := [(0, (.pr (.one (.fn 78 .nil .nil)) (.pr (.one (.fn 79 .nil .nil)) (.pr (.one (.fn 79 .nil .nil)) (.pr (.one (.fn 79 .nil .nil)) (.pr (.one (.fn 80 .nil .nil)) (.pr (.one (.fn 81 .nil .nil)) (.pr (.one (.fn 81 .nil .nil)) (.pr (.one (.fn 82 .nil .nil)) (.pr (.one (.fn 82 .nil .nil)) (.pr (.one (.fn 83 .nil .nil)) (.pr (.one (.fn 84 .nil .nil)) (.pr (.one (.fn 84 .nil .nil)) (.pr (.one (.fn 85 .nil .nil)) (.one (.fn 85 .nil .nil))))))))))))))))], bl := [], ts := [], pin := 0 }
noncomputable def F_prog_ops (x : Unit) : Option Unit :=
  some ()
noncomputable def cx_prog_ops : Ctx := { tb := mkTb T2.tbl, fx := [], sum := [], nt := 16, pin := 0, nr := true, ys := [] }
theorem F_prog_ops_ok : Sound Try.prog 66 (Spec.shp si_prog_ops so_prog_ops F_prog_ops) :=
  Sound.shp (C := cx_prog_ops) (fn := Try.f66) (by kernel_rfl) (c := bodyOf Try.f66) (by kernel_rfl) (by decide) (ctxOK mixed tbl_ok rfl trivial trivial) (SumOK.of trivial) (by kernel_rfl) si_prog_ops so_prog_ops rfl (by decide) (by decide) rfl (by decide) rfl F_prog_ops (fun x => by kernel_rfl)
abbrev si_prog_none : Shape := { sl := [(0, (.hole (.pair (.slice (.int .i64)) (.pair (.int .i64) (.pair (.int .i64) (.pair (.int .i64) (.pair (.slice (.pair (.slice (.pair .bool (.int .i64))) .bool)) (.slice (.slice (.pair (.int .i64) (.pair (.int .i64) (.int .i64)))))))))))), (1, (.hole (.slice (.pair (.int .i64) (.pair (.int .i64) (.int .i64))))))], bl := [], ts := [(.pair (.slice (.int .i64)) (.pair (.int .i64) (.pair (.int .i64) (.pair (.int .i64) (.pair (.slice (.pair (.slice (.pair .bool (.int .i64))) .bool)) (.slice (.slice (.pair (.int .i64) (.pair (.int .i64) (.int .i64)))))))))), (.slice (.pair (.int .i64) (.pair (.int .i64) (.int .i64))))], pin := 0 }
abbrev so_prog_none : Shape := { sl := [(0, (.hole (.int .i64)))], bl := [], ts := [(.int .i64)], pin := 0 }
noncomputable def F_prog_none (x : ((List (Int) × (Int × (Int × (Int × (List ((List ((Bool × Int)) × Bool)) × List (List ((Int × (Int × Int))))))))) × List ((Int × (Int × Int))))) : Option (Int) :=
  some (1 : Int)
noncomputable def cx_prog_none : Ctx := { tb := mkTb T2.tbl, fx := [], sum := [], nt := 5, pin := 0, nr := true, ys := [] }
theorem F_prog_none_ok : Sound Try.prog 78 (Spec.shp si_prog_none so_prog_none F_prog_none) :=
  Sound.shp (C := cx_prog_none) (fn := Try.f78) (by kernel_rfl) (c := bodyOf Try.f78) (by kernel_rfl) (by decide) (ctxOK mixed tbl_ok rfl trivial trivial) (SumOK.of trivial) (by kernel_rfl) si_prog_none so_prog_none rfl (by decide) (by decide) rfl (by decide) rfl F_prog_none (fun x => by kernel_rfl)
abbrev si_prog_chans : Shape := { sl := [(0, (.hole (.pair (.slice (.int .i64)) (.pair (.int .i64) (.pair (.int .i64) (.pair (.int .i64) (.pair (.slice (.pair (.slice (.pair .bool (.int .i64))) .bool)) (.slice (.slice (.pair (.int .i64) (.pair (.int .i64) (.int .i64)))))))))))), (1, (.hole (.slice (.pair (.int .i64) (.pair (.int .i64) (.int .i64))))))], bl := [], ts := [(.pair (.slice (.int .i64)) (.pair (.int .i64) (.pair (.int .i64) (.pair (.int .i64) (.pair (.slice (.pair (.slice (.pair .bool (.int .i64))) .bool)) (.slice (.slice (.pair (.int .i64) (.pair (.int .i64) (.int .i64)))))))))), (.slice (.pair (.int .i64) (.pair (.int .i64) (.int .i64))))], pin := 0 }
abbrev so_prog_chans : Shape := { sl := [(0, (.hole (.int .i64)))], bl := [], ts := [(.int .i64)], pin := 0 }
noncomputable def F_prog_chans (x : ((List (Int) × (Int × (Int × (Int × (List ((List ((Bool × Int)) × Bool)) × List (List ((Int × (Int × Int))))))))) × List ((Int × (Int × Int))))) : Option (Int) :=
  some (((List.length x.1.1) : Nat) : Int)
noncomputable def cx_prog_chans : Ctx := { tb := mkTb T2.tbl, fx := [], sum := [], nt := 8, pin := 0, nr := true, ys := [] }
theorem F_prog_chans_ok : Sound Try.prog 79 (Spec.shp si_prog_chans so_prog_chans F_prog_chans) :=
  Sound.shp (C := cx_prog_chans) (fn := Try.f79) (by kernel_rfl) (c := bodyOf Try.f79) (by kernel_rfl) (by decide) (ctxOK mixed tbl_ok rfl trivial trivial) (SumOK.of trivial) (by kernel_rfl) si_prog_chans so_prog_chans rfl (by decide) (by decide) rfl (by decide) rfl F_prog_chans (fun x => by kernel_rfl)
abbrev si_prog_selects : Shape := { sl := [(0, (.hole (.pair (.slice (.int .i64)) (.pair (.int .i64) (.pair (.int .i64) (.pair (.int .i64) (.pair (.slice (.pair (.slice (.pair .bool (.int .i64))) .bool)) (.slice (.slice (.pair (.int .i64) (.pair (.int .i64) (.int .i64)))))))))))), (1, (.hole (.slice (.pair (.int .i64) (.pair (.int .i64) (.int .i64))))))], bl := [], ts := [(.pair (.slice (.int .i64)) (.pair (.int .i64) (.pair (.int .i64) (.pair (.int .i64) (.pair (.slice (.pair (.slice (.pair .bool (.int .i64))) .bool)) (.slice (.slice (.pair (.int .i64) (.pair (.int .i64) (.int .i64)))))))))), (.slice (.pair (.int .i64) (.pair (.int .i64) (.int .i64))))], pin := 0 }
abbrev so_prog_selects : Shape := { sl := [(0, (.hole (.int .i64)))], bl := [], ts := [(.int .i64)], pin := 0 }
noncomputable def F_prog_selects (x : ((List (Int) × (Int × (Int × (Int × (List ((List ((Bool × Int)) × Bool)) × List (List ((Int × (Int × Int))))))))) × List ((Int × (Int × Int))))) : Option (Int) :=
  some (((List.length x.1.2.2.2.2.1) : Nat) : Int)
noncomputable def cx_prog_selects : Ctx := { tb := mkTb T2.tbl, fx := [], sum := [], nt := 8, pin := 0, nr := true, ys := [] }
theorem F_prog_selects_ok : Sound Try.prog 80 (Spec.shp si_prog_selects so_prog_selects F_prog_selects) :=
  Sound.shp (C := cx_prog_selects) (fn := Try.f80) (by kernel_rfl) (c := bodyOf Try.f80) (by kernel_rfl) (by decide) (ctxOK mixed tbl_ok rfl trivial trivial) (SumOK.of trivial) (by kernel_rfl) si_prog_selects so_prog_selects rfl (by decide) (by decide) rfl (by decide) rfl F_prog_selects (fun x => by kernel_rfl)
abbrev si_prog_mutexes : Shape := { sl := [(0, (.hole (.pair (.slice (.int .i64)) (.pair (.int .i64) (.pair (.int .i64) (.pair (.int .i64) (.pair (.slice (.pair (.slice (.pair .bool (.int .i64))) .bool)) (.slice (.slice (.pair (.int .i64) (.pair (.int .i64) (.int .i64)))))))))))), (1, (.hole (.slice (.pair (.int .i64) (.pair (.int .i64) (.int .i64))))))], bl := [], ts := [(.pair (.slice (.int .i64)) (.pair (.int .i64) (.pair (.int .i64) (.pair (.int .i64) (.pair (.slice (.pair (.slice (.pair .bool (.int .i64))) .bool)) (.slice (.slice (.pair (.int .i64) (.pair (.int .i64) (.int .i64)))))))))), (.slice (.pair (.int .i64) (.pair (.int .i64) (.int .i64))))], pin := 0 }
abbrev so_prog_mutexes : Shape := { sl := [(0, (.hole (.int .i64)))], bl := [], ts := [(.int .i64)], pin := 0 }
noncomputable def F_prog_mutexes (x : ((List (Int) × (Int × (Int × (Int × (List ((List ((Bool × Int)) × Bool)) × List (List ((Int × (Int × Int))))))))) × List ((Int × (Int × Int))))) : Option (Int) :=
  some x.1.2.1
noncomputable def cx_prog_mutexes : Ctx := { tb := mkTb T2.tbl, fx := [], sum := [], nt := 7, pin := 0, nr := true, ys := [] }
theorem F_prog_mutexes_ok : Sound Try.prog 81 (Spec.shp si_prog_mutexes so_prog_mutexes F_prog_mutexes) :=
  Sound.shp (C := cx_prog_mutexes) (fn := Try.f81) (by kernel_rfl) (c := bodyOf Try.f81) (by kernel_rfl) (by decide) (ctxOK mixed tbl_ok rfl trivial trivial) (SumOK.of trivial) (by kernel_rfl) si_prog_mutexes so_prog_mutexes rfl (by decide) (by decide) rfl (by decide) rfl F_prog_mutexes (fun x => by kernel_rfl)
abbrev si_prog_onces : Shape := { sl := [(0, (.hole (.pair (.slice (.int .i64)) (.pair (.int .i64) (.pair (.int .i64) (.pair (.int .i64) (.pair (.slice (.pair (.slice (.pair .bool (.int .i64))) .bool)) (.slice (.slice (.pair (.int .i64) (.pair (.int .i64) (.int .i64)))))))))))), (1, (.hole (.slice (.pair (.int .i64) (.pair (.int .i64) (.int .i64))))))], bl := [], ts := [(.pair (.slice (.int .i64)) (.pair (.int .i64) (.pair (.int .i64) (.pair (.int .i64) (.pair (.slice (.pair (.slice (.pair .bool (.int .i64))) .bool)) (.slice (.slice (.pair (.int .i64) (.pair (.int .i64) (.int .i64)))))))))), (.slice (.pair (.int .i64) (.pair (.int .i64) (.int .i64))))], pin := 0 }
abbrev so_prog_onces : Shape := { sl := [(0, (.hole (.int .i64)))], bl := [], ts := [(.int .i64)], pin := 0 }
noncomputable def F_prog_onces (x : ((List (Int) × (Int × (Int × (Int × (List ((List ((Bool × Int)) × Bool)) × List (List ((Int × (Int × Int))))))))) × List ((Int × (Int × Int))))) : Option (Int) :=
  some x.1.2.2.1
noncomputable def cx_prog_onces : Ctx := { tb := mkTb T2.tbl, fx := [], sum := [], nt := 7, pin := 0, nr := true, ys := [] }
theorem F_prog_onces_ok : Sound Try.prog 82 (Spec.shp si_prog_onces so_prog_onces F_prog_onces) :=
  Sound.shp (C := cx_prog_onces) (fn := Try.f82) (by kernel_rfl) (c := bodyOf Try.f82) (by kernel_rfl) (by decide) (ctxOK mixed tbl_ok rfl trivial trivial) (SumOK.of trivial) (by kernel_rfl) si_prog_onces so_prog_onces rfl (by decide) (by decide) rfl (by decide) rfl F_prog_onces (fun x => by kernel_rfl)
abbrev si_prog_blocks : Shape := { sl := [(0, (.hole (.pair (.slice (.int .i64)) (.pair (.int .i64) (.pair (.int .i64) (.pair (.int .i64) (.pair (.slice (.pair (.slice (.pair .bool (.int .i64))) .bool)) (.slice (.slice (.pair (.int .i64) (.pair (.int .i64) (.int .i64)))))))))))), (1, (.hole (.slice (.pair (.int .i64) (.pair (.int .i64) (.int .i64))))))], bl := [], ts := [(.pair (.slice (.int .i64)) (.pair (.int .i64) (.pair (.int .i64) (.pair (.int .i64) (.pair (.slice (.pair (.slice (.pair .bool (.int .i64))) .bool)) (.slice (.slice (.pair (.int .i64) (.pair (.int .i64) (.int .i64)))))))))), (.slice (.pair (.int .i64) (.pair (.int .i64) (.int .i64))))], pin := 0 }
abbrev so_prog_blocks : Shape := { sl := [(0, (.hole (.int .i64)))], bl := [], ts := [(.int .i64)], pin := 0 }
noncomputable def F_prog_blocks (x : ((List (Int) × (Int × (Int × (Int × (List ((List ((Bool × Int)) × Bool)) × List (List ((Int × (Int × Int))))))))) × List ((Int × (Int × Int))))) : Option (Int) :=
  some (((List.length x.1.2.2.2.2.2) : Nat) : Int)
noncomputable def cx_prog_blocks : Ctx := { tb := mkTb T2.tbl, fx := [], sum := [], nt := 8, pin := 0, nr := true, ys := [] }
theorem F_prog_blocks_ok : Sound Try.prog 83 (Spec.shp si_prog_blocks so_prog_blocks F_prog_blocks) :=
  Sound.shp (C := cx_prog_blocks) (fn := Try.f83) (by kernel_rfl) (c := bodyOf Try.f83) (by kernel_rfl) (by decide) (ctxOK mixed tbl_ok rfl trivial trivial) (SumOK.of trivial) (by kernel_rfl) si_prog_blocks so_prog_blocks rfl (by decide) (by decide) rfl (by decide) rfl F_prog_blocks (fun x => by kernel_rfl)
abbrev si_prog_vars : Shape := { sl := [(0, (.hole (.pair (.slice (.int .i64)) (.pair (.int .i64) (.pair (.int .i64) (.pair (.int .i64) (.pair (.slice (.pair (.slice (.pair .bool (.int .i64))) .bool)) (.slice (.slice (.pair (.int .i64) (.pair (.int .i64) (.int .i64)))))))))))), (1, (.hole (.slice (.pair (.int .i64) (.pair (.int .i64) (.int .i64))))))], bl := [], ts := [(.pair (.slice (.int .i64)) (.pair (.int .i64) (.pair (.int .i64) (.pair (.int .i64) (.pair (.slice (.pair (.slice (.pair .bool (.int .i64))) .bool)) (.slice (.slice (.pair (.int .i64) (.pair (.int .i64) (.int .i64)))))))))), (.slice (.pair (.int .i64) (.pair (.int .i64) (.int .i64))))], pin := 0 }
abbrev so_prog_vars : Shape := { sl := [(0, (.hole (.int .i64)))], bl := [], ts := [(.int .i64)], pin := 0 }
noncomputable def F_prog_vars (x : ((List (Int) × (Int × (Int × (Int × (List ((List ((Bool × Int)) × Bool)) × List (List ((Int × (Int × Int))))))))) × List ((Int × (Int × Int))))) : Option (Int) :=
  some x.1.2.2.2.1
noncomputable def cx_prog_vars : Ctx := { tb := mkTb T2.tbl, fx := [], sum := [], nt := 7, pin := 0, nr := true, ys := [] }
theorem F_prog_vars_ok : Sound Try.prog 84 (Spec.shp si_prog_vars so_prog_vars F_prog_vars) :=
  Sound.shp (C := cx_prog_vars) (fn := Try.f84) (by kernel_rfl) (c := bodyOf Try.f84) (by kernel_rfl) (by decide) (ctxOK mixed tbl_ok rfl trivial trivial) (SumOK.of trivial) (by kernel_rfl) si_prog_vars so_prog_vars rfl (by decide) (by decide) rfl (by decide) rfl F_prog_vars (fun x => by kernel_rfl)
abbrev si_prog_places : Shape := { sl := [(0, (.hole (.pair (.slice (.int .i64)) (.pair (.int .i64) (.pair (.int .i64) (.pair (.int .i64) (.pair (.slice (.pair (.slice (.pair .bool (.int .i64))) .bool)) (.slice (.slice (.pair (.int .i64) (.pair (.int .i64) (.int .i64)))))))))))), (1, (.hole (.slice (.pair (.int .i64) (.pair (.int .i64) (.int .i64))))))], bl := [], ts := [(.pair (.slice (.int .i64)) (.pair (.int .i64) (.pair (.int .i64) (.pair (.int .i64) (.pair (.slice (.pair (.slice (.pair .bool (.int .i64))) .bool)) (.slice (.slice (.pair (.int .i64) (.pair (.int .i64) (.int .i64)))))))))), (.slice (.pair (.int .i64) (.pair (.int .i64) (.int .i64))))], pin := 0 }
abbrev so_prog_places : Shape := { sl := [(0, (.hole (.int .i64)))], bl := [], ts := [(.int .i64)], pin := 0 }
noncomputable def F_prog_places (x : ((List (Int) × (Int × (Int × (Int × (List ((List ((Bool × Int)) × Bool)) × List (List ((Int × (Int × Int))))))))) × List ((Int × (Int × Int))))) : Option (Int) :=
  some (Go.IntKind.wrap Go.IntKind.i64 ((((List.length x.2) : Nat) : Int) + (1 : Int)))
noncomputable def cx_prog_places : Ctx := { tb := mkTb T2.tbl, fx := [], sum := [], nt := 8, pin := 0, nr := true, ys := [] }
theorem F_prog_places_ok : Sound Try.prog 85 (Spec.shp si_prog_places so_prog_places F_prog_places) :=
  Sound.shp (C := cx_prog_places) (fn := Try.f85) (by kernel_rfl) (c := bodyOf Try.f85) (by kernel_rfl) (by decide) (ctxOK mixed tbl_ok rfl trivial trivial) (SumOK.of trivial) (by kernel_rfl) si_prog_places so_prog_places rfl (by decide) (by decide) rfl (by decide) rfl F_prog_places (fun x => by kernel_rfl)
abbrev si_prog_instr : Shape := { sl := [(0, (.hole (.pair (.slice (.int .i64)) (.pair (.int .i64) (.pair (.int .i64) (.pair (.int .i64) (.pair (.slice (.pair (.slice (.pair .bool (.int .i64))) .bool)) (.slice (.slice (.pair (.int .i64) (.pair (.int .i64) (.int .i64)))))))))))), (1, (.hole (.slice (.pair (.int .i64) (.pair (.int .i64) (.int .i64)))))), (2, (.hole (.pair (.int .i64) (.pair (.int .i64) (.int .i64)))))], bl := [], ts := [(.pair (.slice (.int .i64)) (.pair (.int .i64) (.pair (.int .i64) (.pair (.int .i64) (.pair (.slice (.pair (.slice (.pair .bool (.int .i64))) .bool)) (.slice (.slice (.pair (.int .i64) (.pair (.int .i64) (.int .i64)))))))))), (.slice (.pair (.int .i64) (.pair (.int .i64) (.int .i64)))), (.pair (.int .i64) (.pair (.int .i64) (.int .i64)))], pin := 0 }
abbrev so_prog_instr : Shape := { sl := [(0, (.hole (.int .i64)))], bl := [], ts := [(.int .i64)], pin := 0 }
noncomputable def F_prog_instr (x : ((List (Int) × (Int × (Int × (Int × (List ((List ((Bool × Int)) × Bool)) × List (List ((Int × (Int × Int))))))))) × List ((Int × (Int × Int))) × (Int × (Int × Int)))) : Option (Int) :=
  ((F_prog_in (x.2.2.1, ((0 : Int), (13 : Int))))).bind fun r8 =>
  bif (Bool.not r8) then
    some (11 : Int)
  else
    bif (x.2.2.1 == (7 : Int)) then
      ((F_prog_ops ())).bind fun r9 =>
      bif (x.2.2.1 == (((0 : Nat) : Nat) : Int)) then
        ((F_prog_none (x.1, x.2.1))).bind fun r10 =>
        ((F_prog_in (x.2.2.2.1, ((0 : Int), (Go.IntKind.wrap Go.IntKind.i64 (r10 - (1 : Int))))))).bind fun r11 =>
        bif (Bool.not r11) then
          some (3 : Int)
        else
          ((F_prog_in (x.2.2.2.2, ((0 : Int), (((List.length x.2.1) : Nat) : Int))))).bind fun r12 =>
          bif (Bool.not r12) then
            some (3 : Int)
          else
            some (0 : Int)
      else
        bif (x.2.2.1 == ((((0 : Nat) + (1 : Nat)) : Nat) : Int)) then
          ((F_prog_chans (x.1, x.2.1))).bind fun r10 =>
          ((F_prog_in (x.2.2.2.1, ((0 : Int), (Go.IntKind.wrap Go.IntKind.i64 (r10 - (1 : Int))))))).bind fun r11 =>
          bif (Bool.not r11) then
            some (3 : Int)
          else
            ((F_prog_in (x.2.2.2.2, ((0 : Int), (((List.length x.2.1) : Nat) : Int))))).bind fun r12 =>
            bif (Bool.not r12) then
              some (3 : Int)
            else
              some (0 : Int)
        else
          bif (x.2.2.1 == (((((0 : Nat) + (1 : Nat)) + (1 : Nat)) : Nat) : Int)) then
            ((F_prog_chans (x.1, x.2.1))).bind fun r10 =>
            ((F_prog_in (x.2.2.2.1, ((0 : Int), (Go.IntKind.wrap Go.IntKind.i64 (r10 - (1 : Int))))))).bind fun r11 =>
            bif (Bool.not r11) then
              some (3 : Int)
            else
              ((F_prog_in (x.2.2.2.2, ((0 : Int), (((List.length x.2.1) : Nat) : Int))))).bind fun r12 =>
              bif (Bool.not r12) then
                some (3 : Int)
              else
                some (0 : Int)
          else
            bif (x.2.2.1 == ((((((0 : Nat) + (1 : Nat)) + (1 : Nat)) + (1 : Nat)) : Nat) : Int)) then
              ((F_prog_chans (x.1, x.2.1))).bind fun r10 =>
              ((F_prog_in (x.2.2.2.1, ((0 : Int), (Go.IntKind.wrap Go.IntKind.i64 (r10 - (1 : Int))))))).bind fun r11 =>
              bif (Bool.not r11) then
                some (3 : Int)
              else
                ((F_prog_in (x.2.2.2.2, ((0 : Int), (((List.length x.2.1) : Nat) : Int))))).bind fun r12 =>
                bif (Bool.not r12) then
                  some (3 : Int)
                else
                  some (0 : Int)
            else
              bif (x.2.2.1 == (((((((0 : Nat) + (1 : Nat)) + (1 : Nat)) + (1 : Nat)) + (1 : Nat)) : Nat) : Int)) then
                ((F_prog_selects (x.1, x.2.1))).bind fun r10 =>
                ((F_prog_in (x.2.2.2.1, ((0 : Int), (Go.IntKind.wrap Go.IntKind.i64 (r10 - (1 : Int))))))).bind fun r11 =>
                bif (Bool.not r11) then
                  some (3 : Int)
                else
                  ((F_prog_in (x.2.2.2.2, ((0 : Int), (((List.length x.2.1) : Nat) : Int))))).bind fun r12 =>
                  bif (Bool.not r12) then
                    some (3 : Int)
                  else
                    some (0 : Int)
              else
                bif (x.2.2.1 == ((((((((0 : Nat) + (1 : Nat)) + (1 : Nat)) + (1 : Nat)) + (1 : Nat)) + (1 : Nat)) : Nat) : Int)) then
                  ((F_prog_mutexes (x.1, x.2.1))).bind fun r10 =>
                  ((F_prog_in (x.2.2.2.1, ((0 : Int), (Go.IntKind.wrap Go.IntKind.i64 (r10 - (1 : Int))))))).bind fun r11 =>
                  bif (Bool.not r11) then
                    some (3 : Int)
                  else
                    ((F_prog_in (x.2.2.2.2, ((0 : Int), (((List.length x.2.1) : Nat) : Int))))).bind fun r12 =>
                    bif (Bool.not r12) then
                      some (3 : Int)
                    else
                      some (0 : Int)
                else
                  bif (x.2.2.1 == (((((((((0 : Nat) + (1 : Nat)) + (1 : Nat)) + (1 : Nat)) + (1 : Nat)) + (1 : Nat)) + (1 : Nat)) : Nat) : Int)) then
                    ((F_prog_mutexes (x.1, x.2.1))).bind fun r10 =>
                    ((F_prog_in (x.2.2.2.1, ((0 : Int), (Go.IntKind.wrap Go.IntKind.i64 (r10 - (1 : Int))))))).bind fun r11 =>
                    bif (Bool.not r11) then
                      some (3 : Int)
                    else
                      ((F_prog_in (x.2.2.2.2, ((0 : Int), (((List.length x.2.1) : Nat) : Int))))).bind fun r12 =>
                      bif (Bool.not r12) then
                        some (3 : Int)
                      else
                        some (0 : Int)
                  else
                    bif (x.2.2.1 == ((((((((((0 : Nat) + (1 : Nat)) + (1 : Nat)) + (1 : Nat)) + (1 : Nat)) + (1 : Nat)) + (1 : Nat)) + (1 : Nat)) : Nat) : Int)) then
                      ((F_prog_onces (x.1, x.2.1))).bind fun r10 =>
                      ((F_prog_in (x.2.2.2.1, ((0 : Int), (Go.IntKind.wrap Go.IntKind.i64 (r10 - (1 : Int))))))).bind fun r11 =>
                      bif (Bool.not r11) then
                        some (3 : Int)
                      else
                        ((F_prog_in (x.2.2.2.2, ((0 : Int), (((List.length x.2.1) : Nat) : Int))))).bind fun r12 =>
                        bif (Bool.not r12) then
                          some (3 : Int)
                        else
                          some (0 : Int)
                    else
                      bif (x.2.2.1 == (((((((((((0 : Nat) + (1 : Nat)) + (1 : Nat)) + (1 : Nat)) + (1 : Nat)) + (1 : Nat)) + (1 : Nat)) + (1 : Nat)) + (1 : Nat)) : Nat) : Int)) then
                        ((F_prog_onces (x.1, x.2.1))).bind fun r10 =>
                        ((F_prog_in (x.2.2.2.1, ((0 : Int), (Go.IntKind.wrap Go.IntKind.i64 (r10 - (1 : Int))))))).bind fun r11 =>
                        bif (Bool.not r11) then
                          some (3 : Int)
                        else
                          ((F_prog_in (x.2.2.2.2, ((0 : Int), (((List.length x.2.1) : Nat) : Int))))).bind fun r12 =>
                          bif (Bool.not r12) then
                            some (3 : Int)
                          else
                            some (0 : Int)
                      else
                        bif (x.2.2.1 == ((((((((((((0 : Nat) + (1 : Nat)) + (1 : Nat)) + (1 : Nat)) + (1 : Nat)) + (1 : Nat)) + (1 : Nat)) + (1 : Nat)) + (1 : Nat)) + (1 : Nat)) : Nat) : Int)) then
                          ((F_prog_blocks (x.1, x.2.1))).bind fun r10 =>
                          ((F_prog_in (x.2.2.2.1, ((0 : Int), (Go.IntKind.wrap Go.IntKind.i64 (r10 - (1 : Int))))))).bind fun r11 =>
                          bif (Bool.not r11) then
                            some (3 : Int)
                          else
                            ((F_prog_in (x.2.2.2.2, ((0 : Int), (((List.length x.2.1) : Nat) : Int))))).bind fun r12 =>
                            bif (Bool.not r12) then
                              some (3 : Int)
                            else
                              some (0 : Int)
                        else
                          bif (x.2.2.1 == (((((((((((((0 : Nat) + (1 : Nat)) + (1 : Nat)) + (1 : Nat)) + (1 : Nat)) + (1 : Nat)) + (1 : Nat)) + (1 : Nat)) + (1 : Nat)) + (1 : Nat)) + (1 : Nat)) : Nat) : Int)) then
                            ((F_prog_vars (x.1, x.2.1))).bind fun r10 =>
                            ((F_prog_in (x.2.2.2.1, ((0 : Int), (Go.IntKind.wrap Go.IntKind.i64 (r10 - (1 : Int))))))).bind fun r11 =>
                            bif (Bool.not r11) then
                              some (3 : Int)
                            else
                              ((F_prog_in (x.2.2.2.2, ((0 : Int), (((List.length x.2.1) : Nat) : Int))))).bind fun r12 =>
                              bif (Bool.not r12) then
                                some (3 : Int)
                              else
                                some (0 : Int)
                          else
                            bif (x.2.2.1 == ((((((((((((((0 : Nat) + (1 : Nat)) + (1 : Nat)) + (1 : Nat)) + (1 : Nat)) + (1 : Nat)) + (1 : Nat)) + (1 : Nat)) + (1 : Nat)) + (1 : Nat)) + (1 : Nat)) + (1 : Nat)) : Nat) : Int)) then
                              ((F_prog_vars (x.1, x.2.1))).bind fun r10 =>
                              ((F_prog_in (x.2.2.2.1, ((0 : Int), (Go.IntKind.wrap Go.IntKind.i64 (r10 - (1 : Int))))))).bind fun r11 =>
                              bif (Bool.not r11) then
                                some (3 : Int)
                              else
                                ((F_prog_in (x.2.2.2.2, ((0 : Int), (((List.length x.2.1) : Nat) : Int))))).bind fun r12 =>
                                bif (Bool.not r12) then
                                  some (3 : Int)
                                else
                                  some (0 : Int)
                            else
                              bif (x.2.2.1 == (((((((((((((((0 : Nat) + (1 : Nat)) + (1 : Nat)) + (1 : Nat)) + (1 : Nat)) + (1 : Nat)) + (1 : Nat)) + (1 : Nat)) + (1 : Nat)) + (1 : Nat)) + (1 : Nat)) + (1 : Nat)) + (1 : Nat)) : Nat) : Int)) then
                                ((F_prog_places (x.1, x.2.1))).bind fun r10 =>
                                ((F_prog_in (x.2.2.2.1, ((0 : Int), (Go.IntKind.wrap Go.IntKind.i64 (r10 - (1 : Int))))))).bind fun r11 =>
                                bif (Bool.not r11) then
                                  some (3 : Int)
                                else
                                  ((F_prog_in (x.2.2.2.2, ((0 : Int), (((List.length x.2.1) : Nat) : Int))))).bind fun r12 =>
                                  bif (Bool.not r12) then
                                    some (3 : Int)
                                  else
                                    some (0 : Int)
                              else
                                bif (x.2.2.1 == ((((((((((((((((0 : Nat) + (1 : Nat)) + (1 : Nat)) + (1 : Nat)) + (1 : Nat)) + (1 : Nat)) + (1 : Nat)) + (1 : Nat)) + (1 : Nat)) + (1 : Nat)) + (1 : Nat)) + (1 : Nat)) + (1 : Nat)) + (1 : Nat)) : Nat) : Int)) then
                                  ((F_prog_places (x.1, x.2.1))).bind fun r10 =>
                                  ((F_prog_in (x.2.2.2.1, ((0 : Int), (Go.IntKind.wrap Go.IntKind.i64 (r10 - (1 : Int))))))).bind fun r11 =>
                                  bif (Bool.not r11) then
                                    some (3 : Int)
                                  else
                                    ((F_prog_in (x.2.2.2.2, ((0 : Int), (((List.length x.2.1) : Nat) : Int))))).bind fun r12 =>
                                    bif (Bool.not r12) then
                                      some (3 : Int)
                                    else
                                      some (0 : Int)
                                else
                                  none
    else
      ((F_prog_ops ())).bind fun r9 =>
      bif (x.2.2.1 == (((0 : Nat) : Nat) : Int)) then
        ((F_prog_none (x.1, x.2.1))).bind fun r10 =>
        ((F_prog_in (x.2.2.2.1, ((0 : Int), (Go.IntKind.wrap Go.IntKind.i64 (r10 - (1 : Int))))))).bind fun r11 =>
        bif (Bool.not r11) then
          some (3 : Int)
        else
          ((F_prog_in (x.2.2.2.2, ((0 : Int), (0 : Int))))).bind fun r12 =>
          bif (Bool.not r12) then
            some (3 : Int)
          else
            some (0 : Int)
      else
        bif (x.2.2.1 == ((((0 : Nat) + (1 : Nat)) : Nat) : Int)) then
          ((F_prog_chans (x.1, x.2.1))).bind fun r10 =>
          ((F_prog_in (x.2.2.2.1, ((0 : Int), (Go.IntKind.wrap Go.IntKind.i64 (r10 - (1 : Int))))))).bind fun r11 =>
          bif (Bool.not r11) then
            some (3 : Int)
          else
            ((F_prog_in (x.2.2.2.2, ((0 : Int), (0 : Int))))).bind fun r12 =>
            bif (Bool.not r12) then
              some (3 : Int)
            else
              some (0 : Int)
        else
          bif (x.2.2.1 == (((((0 : Nat) + (1 : Nat)) + (1 : Nat)) : Nat) : Int)) then
            ((F_prog_chans (x.1, x.2.1))).bind fun r10 =>
            ((F_prog_in (x.2.2.2.1, ((0 : Int), (Go.IntKind.wrap Go.IntKind.i64 (r10 - (1 : Int))))))).bind fun r11 =>
            bif (Bool.not r11) then
              some (3 : Int)
            else
              ((F_prog_in (x.2.2.2.2, ((0 : Int), (0 : Int))))).bind fun r12 =>
              bif (Bool.not r12) then
                some (3 : Int)
              else
                some (0 : Int)
          else
            bif (x.2.2.1 == ((((((0 : Nat) + (1 : Nat)) + (1 : Nat)) + (1 : Nat)) : Nat) : Int)) then
              ((F_prog_chans (x.1, x.2.1))).bind fun r10 =>
              ((F_prog_in (x.2.2.2.1, ((0 : Int), (Go.IntKind.wrap Go.IntKind.i64 (r10 - (1 : Int))))))).bind fun r11 =>
              bif (Bool.not r11) then
                some (3 : Int)
              else
                ((F_prog_in (x.2.2.2.2, ((0 : Int), (0 : Int))))).bind fun r12 =>
                bif (Bool.not r12) then
                  some (3 : Int)
                else
                  some (0 : Int)
            else
              bif (x.2.2.1 == (((((((0 : Nat) + (1 : Nat)) + (1 : Nat)) + (1 : Nat)) + (1 : Nat)) : Nat) : Int)) then
                ((F_prog_selects (x.1, x.2.1))).bind fun r10 =>
                ((F_prog_in (x.2.2.2.1, ((0 : Int), (Go.IntKind.wrap Go.IntKind.i64 (r10 - (1 : Int))))))).bind fun r11 =>
                bif (Bool.not r11) then
                  some (3 : Int)
                else
                  ((F_prog_in (x.2.2.2.2, ((0 : Int), (0 : Int))))).bind fun r12 =>
                  bif (Bool.not r12) then
                    some (3 : Int)
                  else
                    some (0 : Int)
              else
                bif (x.2.2.1 == ((((((((0 : Nat) + (1 : Nat)) + (1 : Nat)) + (1 : Nat)) + (1 : Nat)) + (1 : Nat)) : Nat) : Int)) then
                  ((F_prog_mutexes (x.1, x.2.1))).bind fun r10 =>
                  ((F_prog_in (x.2.2.2.1, ((0 : Int), (Go.IntKind.wrap Go.IntKind.i64 (r10 - (1 : Int))))))).bind fun r11 =>
                  bif (Bool.not r11) then
                    some (3 : Int)
                  else
                    ((F_prog_in (x.2.2.2.2, ((0 : Int), (0 : Int))))).bind fun r12 =>
                    bif (Bool.not r12) then
                      some (3 : Int)
                    else
                      some (0 : Int)
                else
                  bif (x.2.2.1 == (((((((((0 : Nat) + (1 : Nat)) + (1 : Nat)) + (1 : Nat)) + (1 : Nat)) + (1 : Nat)) + (1 : Nat)) : Nat) : Int)) then
                    ((F_prog_mutexes (x.1, x.2.1))).bind fun r10 =>
                    ((F_prog_in (x.2.2.2.1, ((0 : Int), (Go.IntKind.wrap Go.IntKind.i64 (r10 - (1 : Int))))))).bind fun r11 =>
                    bif (Bool.not r11) then
                      some (3 : Int)
                    else
                      ((F_prog_in (x.2.2.2.2, ((0 : Int), (0 : Int))))).bind fun r12 =>
                      bif (Bool.not r12) then
                        some (3 : Int)
                      else
                        some (0 : Int)
                  else
                    bif (x.2.2.1 == ((((((((((0 : Nat) + (1 : Nat)) + (1 : Nat)) + (1 : Nat)) + (1 : Nat)) + (1 : Nat)) + (1 : Nat)) + (1 : Nat)) : Nat) : Int)) then
                      ((F_prog_onces (x.1, x.2.1))).bind fun r10 =>
                      ((F_prog_in (x.2.2.2.1, ((0 : Int), (Go.IntKind.wrap Go.IntKind.i64 (r10 - (1 : Int))))))).bind fun r11 =>
                      bif (Bool.not r11) then
                        some (3 : Int)
                      else
                        ((F_prog_in (x.2.2.2.2, ((0 : Int), (0 : Int))))).bind fun r12 =>
                        bif (Bool.not r12) then
                          some (3 : Int)
                        else
                          some (0 : Int)
                    else
                      bif (x.2.2.1 == (((((((((((0 : Nat) + (1 : Nat)) + (1 : Nat)) + (1 : Nat)) + (1 : Nat)) + (1 : Nat)) + (1 : Nat)) + (1 : Nat)) + (1 : Nat)) : Nat) : Int)) then
                        ((F_prog_onces (x.1, x.2.1))).bind fun r10 =>
                        ((F_prog_in (x.2.2.2.1, ((0 : Int), (Go.IntKind.wrap Go.IntKind.i64 (r10 - (1 : Int))))))).bind fun r11 =>
                        bif (Bool.not r11) then
                          some (3 : Int)
                        else
                          ((F_prog_in (x.2.2.2.2, ((0 : Int), (0 : Int))))).bind fun r12 =>
                          bif (Bool.not r12) then
                            some (3 : Int)
                          else
                            some (0 : Int)
                      else
                        bif (x.2.2.1 == ((((((((((((0 : Nat) + (1 : Nat)) + (1 : Nat)) + (1 : Nat)) + (1 : Nat)) + (1 : Nat)) + (1 : Nat)) + (1 : Nat)) + (1 : Nat)) + (1 : Nat)) : Nat) : Int)) then
                          ((F_prog_blocks (x.1, x.2.1))).bind fun r10 =>
                          ((F_prog_in (x.2.2.2.1, ((0 : Int), (Go.IntKind.wrap Go.IntKind.i64 (r10 - (1 : Int))))))).bind fun r11 =>
                          bif (Bool.not r11) then
                            some (3 : Int)
                          else
                            ((F_prog_in (x.2.2.2.2, ((0 : Int), (0 : Int))))).bind fun r12 =>
                            bif (Bool.not r12) then
                              some (3 : Int)
                            else
                              some (0 : Int)
                        else
                          bif (x.2.2.1 == (((((((((((((0 : Nat) + (1 : Nat)) + (1 : Nat)) + (1 : Nat)) + (1 : Nat)) + (1 : Nat)) + (1 : Nat)) + (1 : Nat)) + (1 : Nat)) + (1 : Nat)) + (1 : Nat)) : Nat) : Int)) then
                            ((F_prog_vars (x.1, x.2.1))).bind fun r10 =>
                            ((F_prog_in (x.2.2.2.1, ((0 : Int), (Go.IntKind.wrap Go.IntKind.i64 (r10 - (1 : Int))))))).bind fun r11 =>
                            bif (Bool.not r11) then
                              some (3 : Int)
                            else
                              ((F_prog_in (x.2.2.2.2, ((0 : Int), (0 : Int))))).bind fun r12 =>
                              bif (Bool.not r12) then
                                some (3 : Int)
                              else
                                some (0 : Int)
                          else
                            bif (x.2.2.1 == ((((((((((((((0 : Nat) + (1 : Nat)) + (1 : Nat)) + (1 : Nat)) + (1 : Nat)) + (1 : Nat)) + (1 : Nat)) + (1 : Nat)) + (1 : Nat)) + (1 : Nat)) + (1 : Nat)) + (1 : Nat)) : Nat) : Int)) then
                              ((F_prog_vars (x.1, x.2.1))).bind fun r10 =>
                              ((F_prog_in (x.2.2.2.1, ((0 : Int), (Go.IntKind.wrap Go.IntKind.i64 (r10 - (1 : Int))))))).bind fun r11 =>
                              bif (Bool.not r11) then
                                some (3 : Int)
                              else
                                ((F_prog_in (x.2.2.2.2, ((0 : Int), (0 : Int))))).bind fun r12 =>
                                bif (Bool.not r12) then
                                  some (3 : Int)
                                else
                                  some (0 : Int)
                            else
                              bif (x.2.2.1 == (((((((((((((((0 : Nat) + (1 : Nat)) + (1 : Nat)) + (1 : Nat)) + (1 : Nat)) + (1 : Nat)) + (1 : Nat)) + (1 : Nat)) + (1 : Nat)) + (1 : Nat)) + (1 : Nat)) + (1 : Nat)) + (1 : Nat)) : Nat) : Int)) then
                                ((F_prog_places (x.1, x.2.1))).bind fun r10 =>
                                ((F_prog_in (x.2.2.2.1, ((0 : Int), (Go.IntKind.wrap Go.IntKind.i64 (r10 - (1 : Int))))))).bind fun r11 =>
                                bif (Bool.not r11) then
                                  some (3 : Int)
                                else
                                  ((F_prog_in (x.2.2.2.2, ((0 : Int), (0 : Int))))).bind fun r12 =>
                                  bif (Bool.not r12) then
                                    some (3 : Int)
                                  else
                                    some (0 : Int)
                              else
                                bif (x.2.2.1 == ((((((((((((((((0 : Nat) + (1 : Nat)) + (1 : Nat)) + (1 : Nat)) + (1 : Nat)) + (1 : Nat)) + (1 : Nat)) + (1 : Nat)) + (1 : Nat)) + (1 : Nat)) + (1 : Nat)) + (1 : Nat)) + (1 : Nat)) + (1 : Nat)) : Nat) : Int)) then
                                  ((F_prog_places (x.1, x.2.1))).bind fun r10 =>
                                  ((F_prog_in (x.2.2.2.1, ((0 : Int), (Go.IntKind.wrap Go.IntKind.i64 (r10 - (1 : Int))))))).bind fun r11 =>
                                  bif (Bool.not r11) then
                                    some (3 : Int)
                                  else
                                    ((F_prog_in (x.2.2.2.2, ((0 : Int), (0 : Int))))).bind fun r12 =>
                                    bif (Bool.not r12) then
                                      some (3 : Int)
                                    else
                                      some (0 : Int)
                                else
                                  none
noncomputable def cx_prog_instr : Ctx := { tb := mkTb T2.tbl, fx := [(29, [], Spec.shp si_prog_in so_prog_in F_prog_in), (66, [], Spec.shp si_prog_ops so_prog_ops F_prog_ops), (78, [], Spec.shp si_prog_none so_prog_none F_prog_none), (79, [], Spec.shp si_prog_chans so_prog_chans F_prog_chans), (80, [], Spec.shp si_prog_selects so_prog_selects F_prog_selects), (81, [], Spec.shp si_prog_mutexes so_prog_mutexes F_prog_mutexes), (82, [], Spec.shp si_prog_onces so_prog_onces F_prog_onces), (83, [], Spec.shp si_prog_blocks so_prog_blocks F_prog_blocks), (84, [], Spec.shp si_prog_vars so_prog_vars F_prog_vars), (85, [], Spec.shp si_prog_places so_prog_places F_prog_places)], sum := [], nt := 37, pin := 0, nr := true, ys := [] }
theorem F_prog_instr_ok : Sound Try.prog 42 (Spec.shp si_prog_instr so_prog_instr F_prog_instr) :=
  Sound.shp (C := cx_prog_instr) (fn := Try.f42) (by kernel_rfl) (c := bodyOf Try.f42) (by kernel_rfl) (by decide) (ctxOK mixed tbl_ok rfl ⟨F_prog_in_ok, F_prog_ops_ok, F_prog_none_ok, F_prog_chans_ok, F_prog_selects_ok, F_prog_mutexes_ok, F_prog_onces_ok, F_prog_blocks_ok, F_prog_vars_ok, F_prog_places_ok, trivial⟩ trivial) (SumOK.of trivial) (by kernel_rfl) si_prog_instr so_prog_instr rfl (by decide) (by decide) rfl (by decide) rfl F_prog_instr (fun x => by kernel_rfl)
abbrev sh_prog_Wrong_11 : Shape := { sl := [(1, (.ptr 0 [])), (7, (.hole (.int .i64))), (8, (.hole (.slice (.pair (.int .i64) (.pair (.int .i64) (.int .i64)))))), (22, (.hole (.slice (.slice (.pair (.int .i64) (.pair (.int .i64) (.int .i64))))))), (23, (.hole (.int .i64))), (24, (.hole (.int .i64))), (33, (.hole (.slice (.pair (.int .i64) (.pair (.int .i64) (.int .i64)))))), (34, (.hole (.int .i64))), (35, (.hole (.int .i64)))], bl := [.var (.hole (.pair (.slice (.int .i64)) (.pair (.int .i64) (.pair (.int .i64) (.pair (.int .i64) (.pair (.slice (.pair (.slice (.pair .bool (.int .i64))) .bool)) (.slice (.slice (.pair (.int .i64) (.pair (.int .i64) (.int .i64)))))))))))], ts := [(.int .i64), (.slice (.pair (.int .i64) (.pair (.int .i64) (.int .i64)))), (.slice (.slice (.pair (.int .i64) (.pair (.int .i64) (.int .i64))))), (.int .i64), (.int .i64), (.slice (.pair (.int .i64) (.pair (.int .i64) (.int .i64)))), (.int .i64), (.int .i64), (.pair (.slice (.int .i64)) (.pair (.int .i64) (.pair (.int .i64) (.pair (.int .i64) (.pair (.slice (.pair (.slice (.pair .bool (.int .i64))) .bool)) (.slice (.slice (.pair (.int .i64) (.pair (.int .i64) (.int .i64))))))))))], pin := 0 }
abbrev es_prog_Wrong_11 : List (ETag × Shape) := [(.ret, { sl := [(2, (.hole (.int .i64))), (3, (.hole (.int .i64))), (4, (.hole (.int .i64)))], bl := [], ts := [(.int .i64), (.int .i64), (.int .i64)], pin := 0 }), (.exit 2, { sl := [(1, (.ptr 0 [])), (22, (.hole (.slice (.slice (.pair (.int .i64) (.pair (.int .i64) (.int .i64))))))), (23, (.hole (.int .i64))), (24, (.hole (.int .i64)))], bl := [.var (.hole (.pair (.slice (.int .i64)) (.pair (.int .i64) (.pair (.int .i64) (.pair (.int .i64) (.pair (.slice (.pair (.slice (.pair .bool (.int .i64))) .bool)) (.slice (.slice (.pair (.int .i64) (.pair (.int .i64) (.int .i64)))))))))))], ts := [(.slice (.slice (.pair (.int .i64) (.pair (.int .i64) (.int .i64))))), (.int .i64), (.int .i64), (.pair (.slice (.int .i64)) (.pair (.int .i64) (.pair (.int .i64) (.pair (.int .i64) (.pair (.slice (.pair (.slice (.pair .bool (.int .i64))) .bool)) (.slice (.slice (.pair (.int .i64) (.pair (.int .i64) (.int .i64))))))))))], pin := 0 })]
noncomputable def L_prog_Wrong_11 (x : (Int × List ((Int × (Int × Int))) × List (List ((Int × (Int × Int)))) × Int × Int × List ((Int × (Int × Int))) × Int × Int × (List (Int) × (Int × (Int × (Int × (List ((List ((Bool × Int)) × Bool)) × List (List ((Int × (Int × Int))))))))))) : Option ((Int × List ((Int × (Int × Int))) × List (List ((Int × (Int × Int)))) × Int × Int × List ((Int × (Int × Int))) × Int × Int × (List (Int) × (Int × (Int × (Int × (List ((List ((Bool × Int)) × Bool)) × List (List ((Int × (Int × Int)))))))))) ⊕ ((Int × Int × Int) ⊕ (List (List ((Int × (Int × Int)))) × Int × Int × (List (Int) × (Int × (Int × (Int × (List ((List ((Bool × Int)) × Bool)) × List (List ((Int × (Int × Int)))))))))))) :=
  bif (decide (x.2.2.2.2.2.2.2.1 < x.2.2.2.2.2.2.1)) then
    bif (Go.Proofs.Ytagjaiammndjoaa.VX.inb x.2.2.2.2.2.2.2.1 (List.length x.2.2.2.2.2.1)) then
      ((F_prog_instr (x.2.2.2.2.2.2.2.2, (x.2.1, (Go.Proofs.Ytagjaiammndjoaa.VX.getAt ((0 : Int), ((0 : Int), (0 : Int))) x.2.2.2.2.2.1 (Go.Proofs.Ytagjaiammndjoaa.VX.toN x.2.2.2.2.2.2.2.1)))))).bind fun r7 =>
      bif (r7 != (0 : Int)) then
        some (.inr (.inl (x.1, (x.2.2.2.2.2.2.2.1, r7))))
      else
        some (.inl (x.1, (x.2.1, (x.2.2.1, (x.2.2.2.1, (x.2.2.2.2.1, (x.2.2.2.2.2.1, (x.2.2.2.2.2.2.1, ((Go.IntKind.wrap Go.IntKind.i64 (x.2.2.2.2.2.2.2.1 + (1 : Int))), x.2.2.2.2.2.2.2.2)))))))))
    else
      none
  else
    some (.inr (.inr (x.2.2.1, (x.2.2.2.1, (x.2.2.2.2.1, x.2.2.2.2.2.2.2.2)))))
noncomputable def cx_prog_Wrong_11 : Ctx := { tb := mkTb T2.tbl, fx := [(41, [], Spec.shp si_prog_tables so_prog_tables F_prog_tables), (42, [], Spec.shp si_prog_instr so_prog_instr F_prog_instr)], sum := [], nt := 51, pin := 0, nr := true, ys := [] }
theorem L_prog_Wrong_11_ok : CSound Try.prog ⟨51, 0, true⟩ (.loop (loopOf 11 Try.f23)) (pieceSpec sh_prog_Wrong_11 es_prog_Wrong_11 (loop L_prog_Wrong_11)) :=
  loop_sound (C := cx_prog_Wrong_11) (ctxOK mixed tbl_ok rfl ⟨F_prog_tables_ok, F_prog_instr_ok, trivial⟩ trivial) (SumOK.of trivial) sh_prog_Wrong_11 es_prog_Wrong_11 rfl rfl L_prog_Wrong_11 (fun x => by kernel_rfl)
abbrev sh_prog_Wrong_6 : Shape := { sl := [(1, (.ptr 0 [])), (22, (.hole (.slice (.slice (.pair (.int .i64) (.pair (.int .i64) (.int .i64))))))), (23, (.hole (.int .i64))), (24, (.hole (.int .i64)))], bl := [.var (.hole (.pair (.slice (.int .i64)) (.pair (.int .i64) (.pair (.int .i64) (.pair (.int .i64) (.pair (.slice (.pair (.slice (.pair .bool (.int .i64))) .bool)) (.slice (.slice (.pair (.int .i64) (.pair (.int .i64) (.int .i64)))))))))))], ts := [(.slice (.slice (.pair (.int .i64) (.pair (.int .i64) (.int .i64))))), (.int .i64), (.int .i64), (.pair (.slice (.int .i64)) (.pair (.int .i64) (.pair (.int .i64) (.pair (.int .i64) (.pair (.slice (.pair (.slice (.pair .bool (.int .i64))) .bool)) (.slice (.slice (.pair (.int .i64) (.pair (.int .i64) (.int .i64))))))))))], pin := 0 }
abbrev es_prog_Wrong_6 : List (ETag × Shape) := [(.ret, { sl := [(2, (.hole (.int .i64))), (3, (.hole (.int .i64))), (4, (.hole (.int .i64)))], bl := [], ts := [(.int .i64), (.int .i64), (.int .i64)], pin := 0 }), (.exit 0, { sl := [], bl := [], ts := [], pin := 0 })]
noncomputable def L_prog_Wrong_6 (x : (List (List ((Int × (Int × Int)))) × Int × Int × (List (Int) × (Int × (Int × (Int × (List ((List ((Bool × Int)) × Bool)) × List (List ((Int × (Int × Int))))))))))) : Option ((List (List ((Int × (Int × Int)))) × Int × Int × (List (Int) × (Int × (Int × (Int × (List ((List ((Bool × Int)) × Bool)) × List (List ((Int × (Int × Int)))))))))) ⊕ ((Int × Int × Int) ⊕ Unit)) :=
  bif (decide (x.2.2.1 < x.2.1)) then
    bif (Go.Proofs.Ytagjaiammndjoaa.VX.inb x.2.2.1 (List.length x.1)) then
      bif (decide ((((List.length (Go.Proofs.Ytagjaiammndjoaa.VX.getAt ([] : List (Int × (Int × Int))) x.1 (Go.Proofs.Ytagjaiammndjoaa.VX.toN x.2.2.1))) : Nat) : Int) > (24 : Int))) then
        some (.inr (.inl (x.2.2.1, ((Int.negSucc 0), (2 : Int)))))
      else
        ((loop L_prog_Wrong_11 (x.2.2.1, ((Go.Proofs.Ytagjaiammndjoaa.VX.getAt ([] : List (Int × (Int × Int))) x.1 (Go.Proofs.Ytagjaiammndjoaa.VX.toN x.2.2.1)), (x.1, (x.2.1, (x.2.2.1, ((Go.Proofs.Ytagjaiammndjoaa.VX.getAt ([] : List (Int × (Int × Int))) x.1 (Go.Proofs.Ytagjaiammndjoaa.VX.toN x.2.2.1)), ((((List.length (Go.Proofs.Ytagjaiammndjoaa.VX.getAt ([] : List (Int × (Int × Int))) x.1 (Go.Proofs.Ytagjaiammndjoaa.VX.toN x.2.2.1))) : Nat) : Int), ((0 : Int), x.2.2.2)))))))))).bind fun r6 =>
        match r6 with
        | .inl y7 =>
          some (.inr (.inl (y7.1, (y7.2.1, y7.2.2))))
        | .inr y7 =>
          some (.inl (y7.1, (y7.2.1, ((Go.IntKind.wrap Go.IntKind.i64 (y7.2.2.1 + (1 : Int))), y7.2.2.2))))
    else
      none
  else
    some (.inr (.inr ()))
noncomputable def cx_prog_Wrong_6 : Ctx := { tb := mkTb T2.tbl, fx := [(41, [], Spec.shp si_prog_tables so_prog_tables F_prog_tables), (42, [], Spec.shp si_prog_instr so_prog_instr F_prog_instr)], sum := [(0, 11, pieceSpec sh_prog_Wrong_11 es_prog_Wrong_11 (loop L_prog_Wrong_11))], nt := 51, pin := 0, nr := true, ys := [] }
theorem L_prog_Wrong_6_ok : CSound Try.prog ⟨51, 0, true⟩ (.loop (loopOf 6 Try.f23)) (pieceSpec sh_prog_Wrong_6 es_prog_Wrong_6 (loop L_prog_Wrong_6)) :=
  loop_sound (C := cx_prog_Wrong_6) (ctxOK mixed tbl_ok rfl ⟨F_prog_tables_ok, F_prog_instr_ok, trivial⟩ trivial) (SumOK.of ⟨(pieces_one (d := .loop (loopOf 11 Try.f23)) (by kernel_rfl) L_prog_Wrong_11_ok), trivial⟩) sh_prog_Wrong_6 es_prog_Wrong_6 rfl rfl L_prog_Wrong_6 (fun x => by kernel_rfl)
abbrev si_prog_Wrong : Shape := { sl := [(0, (.hole (.pair (.slice (.int .i64)) (.pair (.int .i64) (.pair (.int .i64) (.pair (.int .i64) (.pair (.slice (.pair (.slice (.pair .bool (.int .i64))) .bool)) (.slice (.slice (.pair (.int .i64) (.pair (.int .i64) (.int .i64))))))))))))], bl := [], ts := [(.pair (.slice (.int .i64)) (.pair (.int .i64) (.pair (.int .i64) (.pair (.int .i64) (.pair (.slice (.pair (.slice (.pair .bool (.int .i64))) .bool)) (.slice (.slice (.pair (.int .i64) (.pair (.int .i64) (.int .i64))))))))))], pin := 0 }
abbrev so_prog_Wrong : Shape := { sl := [(0, (.hole (.int .i64))), (1, (.hole (.int .i64))), (2, (.hole (.int .i64)))], bl := [], ts := [(.int .i64), (.int .i64), (.int .i64)], pin := 0 }
noncomputable def F_prog_Wrong (x : ((List (Int) × (Int × (Int × (Int × (List ((List ((Bool × Int)) × Bool)) × List (List ((Int × (Int × Int))))))))))) : Option (Int × Int × Int) :=
  ((F_prog_tables x)).bind fun r4 =>
  bif (r4.2 != (0 : Int)) then
    some ((Int.negSucc 0), (r4.1, r4.2))
  else
    ((loop L_prog_Wrong_6 (x.2.2.2.2.2, ((((List.length x.2.2.2.2.2) : Nat) : Int), ((0 : Int), x))))).bind fun r5 =>
    match r5 with
    | .inl y6 =>
      some (y6.1, (y6.2.1, y6.2.2))
    | .inr y6 =>
      some ((Int.negSucc 0), ((Int.negSucc 0), (0 : Int)))
noncomputable def cx_prog_Wrong : Ctx := { tb := mkTb T2.tbl, fx := [(41, [], Spec.shp si_prog_tables so_prog_tables F_prog_tables), (42, [], Spec.shp si_prog_instr so_prog_instr F_prog_instr)], sum := [(0, 11, pieceSpec sh_prog_Wrong_11 es_prog_Wrong_11 (loop L_prog_Wrong_11)), (0, 6, pieceSpec sh_prog_Wrong_6 es_prog_Wrong_6 (loop L_prog_Wrong_6))], nt := 51, pin := 0, nr := true, ys := [] }
theorem F_prog_Wrong_ok : Sound Try.prog 23 (Spec.shp si_prog_Wrong so_prog_Wrong F_prog_Wrong) :=
  Sound.shp (C := cx_prog_Wrong) (fn := Try.f23) (by kernel_rfl) (c := bodyOf Try.f23) (by kernel_rfl) (by decide) (ctxOK mixed tbl_ok rfl ⟨F_prog_tables_ok, F_prog_instr_ok, trivial⟩ trivial) (SumOK.of ⟨(pieces_one (d := .loop (loopOf 11 Try.f23)) (by kernel_rfl) L_prog_Wrong_11_ok), (pieces_one (d := .loop (loopOf 6 Try.f23)) (by kernel_rfl) L_prog_Wrong_6_ok), trivial⟩) (by kernel_rfl) si_prog_Wrong so_prog_Wrong rfl (by decide) (by decide) rfl (by decide) rfl F_prog_Wrong (fun x => by kernel_rfl)
abbrev si_prog_Right : Shape := { sl := [(0, (.hole (.pair (.slice (.int .i64)) (.pair (.int .i64) (.pair (.int .i64) (.pair (.int .i64) (.pair (.slice (.pair (.slice (.pair .bool (.int .i64))) .bool)) (.slice (.slice (.pair (.int .i64) (.pair (.int .i64) (.int .i64))))))))))))], bl := [], ts := [(.pair (.slice (.int .i64)) (.pair (.int .i64) (.pair (.int .i64) (.pair (.int .i64) (.pair (.slice (.pair (.slice (.pair .bool (.int .i64))) .bool)) (.slice (.slice (.pair (.int .i64) (.pair (.int .i64) (.int .i64))))))))))], pin := 0 }
abbrev so_prog_Right : Shape := { sl := [(0, (.hole .bool))], bl := [], ts := [.bool], pin := 0 }
noncomputable def F_prog_Right (x : ((List (Int) × (Int × (Int × (Int × (List ((List ((Bool × Int)) × Bool)) × List (List ((Int × (Int × Int))))))))))) : Option (Bool) :=
  ((F_prog_Wrong x)).bind fun r3 =>
  some (r3.2.2 == (0 : Int))
noncomputable def cx_prog_Right : Ctx := { tb := mkTb T2.tbl, fx := [(23, [], Spec.shp si_prog_Wrong so_prog_Wrong F_prog_Wrong)], sum := [], nt := 14, pin := 0, nr := true, ys := [] }
theorem F_prog_Right_ok : Sound Try.prog 11 (Spec.shp si_prog_Right so_prog_Right F_prog_Right) :=
  Sound.shp (C := cx_prog_Right) (fn := Try.f11) (by kernel_rfl) (c := bodyOf Try.f11) (by kernel_rfl) (by decide) (ctxOK mixed tbl_ok rfl ⟨F_prog_Wrong_ok, trivial⟩ trivial) (SumOK.of trivial) (by kernel_rfl) si_prog_Right so_prog_Right rfl (by decide) (by decide) rfl (by decide) rfl F_prog_Right (fun x => by kernel_rfl)
abbrev sh_prog_Count_11 : Shape := { sl := [(1, (.hole (.int .i64))), (6, (.hole (.int .i64))), (20, (.hole (.slice (.slice (.pair (.int .i64) (.pair (.int .i64) (.int .i64))))))), (21, (.hole (.int .i64))), (22, (.hole (.int .i64))), (26, (.hole (.slice (.pair (.int .i64) (.pair (.int .i64) (.int .i64)))))), (27, (.hole (.int .i64))), (28, (.hole (.int .i64)))], bl := [], ts := [(.int .i64), (.int .i64), (.slice (.slice (.pair (.int .i64) (.pair (.int .i64) (.int .i64))))), (.int .i64), (.int .i64), (.slice (.pair (.int .i64) (.pair (.int .i64) (.int .i64)))), (.int .i64), (.int .i64)], pin := 0 }
abbrev es_prog_Count_11 : List (ETag × Shape) := [(.exit 3, { sl := [(1, (.hole (.int .i64))), (6, (.hole (.int .i64))), (20, (.hole (.slice (.slice (.pair (.int .i64) (.pair (.int .i64) (.int .i64))))))), (21, (.hole (.int .i64))), (22, (.hole (.int .i64)))], bl := [], ts := [(.int .i64), (.int .i64), (.slice (.slice (.pair (.int .i64) (.pair (.int .i64) (.int .i64))))), (.int .i64), (.int .i64)], pin := 0 })]
noncomputable def L_prog_Count_11 (x : (Int × Int × List (List ((Int × (Int × Int)))) × Int × Int × List ((Int × (Int × Int))) × Int × Int)) : Option ((Int × Int × List (List ((Int × (Int × Int)))) × Int × Int × List ((Int × (Int × Int))) × Int × Int) ⊕ ((Int × Int × List (List ((Int × (Int × Int)))) × Int × Int))) :=
  bif (decide (x.2.2.2.2.2.2.2 < x.2.2.2.2.2.2.1)) then
    bif (Go.Proofs.Ytagjaiammndjoaa.VX.inb x.2.2.2.2.2.2.2 (List.length x.2.2.2.2.2.1)) then
      bif ((Go.Proofs.Ytagjaiammndjoaa.VX.getAt ((0 : Int), ((0 : Int), (0 : Int))) x.2.2.2.2.2.1 (Go.Proofs.Ytagjaiammndjoaa.VX.toN x.2.2.2.2.2.2.2)).1 == x.1) then
        some (.inl (x.1, ((Go.IntKind.wrap Go.IntKind.i64 (x.2.1 + (1 : Int))), (x.2.2.1, (x.2.2.2.1, (x.2.2.2.2.1, (x.2.2.2.2.2.1, (x.2.2.2.2.2.2.1, (Go.IntKind.wrap Go.IntKind.i64 (x.2.2.2.2.2.2.2 + (1 : Int)))))))))))
      else
        some (.inl (x.1, (x.2.1, (x.2.2.1, (x.2.2.2.1, (x.2.2.2.2.1, (x.2.2.2.2.2.1, (x.2.2.2.2.2.2.1, (Go.IntKind.wrap Go.IntKind.i64 (x.2.2.2.2.2.2.2 + (1 : Int)))))))))))
    else
      none
  else
    some (.inr (x.1, (x.2.1, (x.2.2.1, (x.2.2.2.1, x.2.2.2.2.1)))))
noncomputable def cx_prog_Count_11 : Ctx := { tb := mkTb T2.tbl, fx := [(11, [], Spec.shp si_prog_Right so_prog_Right F_prog_Right), (29, [], Spec.shp si_prog_in so_prog_in F_prog_in)], sum := [], nt := 41, pin := 0, nr := true, ys := [] }
theorem L_prog_Count_11_ok : CSound Try.prog ⟨41, 0, true⟩ (.loop (loopOf 11 Try.f12)) (pieceSpec sh_prog_Count_11 es_prog_Count_11 (loop L_prog_Count_11)) :=
  loop_sound (C := cx_prog_Count_11) (ctxOK mixed tbl_ok rfl ⟨F_prog_Right_ok, F_prog_in_ok, trivial⟩ trivial) (SumOK.of trivial) sh_prog_Count_11 es_prog_Count_11 rfl rfl L_prog_Count_11 (fun x => by kernel_rfl)
abbrev sh_prog_Count_8 : Shape := { sl := [(1, (.hole (.int .i64))), (6, (.hole (.int .i64))), (20, (.hole (.slice (.slice (.pair (.int .i64) (.pair (.int .i64) (.int .i64))))))), (21, (.hole (.int .i64))), (22, (.hole (.int .i64)))], bl := [], ts := [(.int .i64), (.int .i64), (.slice (.slice (.pair (.int .i64) (.pair (.int .i64) (.int .i64))))), (.int .i64), (.int .i64)], pin := 0 }
abbrev es_prog_Count_8 : List (ETag × Shape) := [(.exit 1, { sl := [(6, (.hole (.int .i64)))], bl := [], ts := [(.int .i64)], pin := 0 })]
noncomputable def L_prog_Count_8 (x : (Int × Int × List (List ((Int × (Int × Int)))) × Int × Int)) : Option ((Int × Int × List (List ((Int × (Int × Int)))) × Int × Int) ⊕ ((Int))) :=
  bif (decide (x.2.2.2.2 < x.2.2.2.1)) then
    bif (Go.Proofs.Ytagjaiammndjoaa.VX.inb x.2.2.2.2 (List.length x.2.2.1)) then
      ((loop L_prog_Count_11 (x.1, (x.2.1, (x.2.2.1, (x.2.2.2.1, (x.2.2.2.2, ((Go.Proofs.Ytagjaiammndjoaa.VX.getAt ([] : List (Int × (Int × Int))) x.2.2.1 (Go.Proofs.Ytagjaiammndjoaa.VX.toN x.2.2.2.2)), ((((List.length (Go.Proofs.Ytagjaiammndjoaa.VX.getAt ([] : List (Int × (Int × Int))) x.2.2.1 (Go.Proofs.Ytagjaiammndjoaa.VX.toN x.2.2.2.2))) : Nat) : Int), (0 : Int)))))))))).bind fun r7 =>
      some (.inl (r7.1, (r7.2.1, (r7.2.2.1, (r7.2.2.2.1, (Go.IntKind.wrap Go.IntKind.i64 (r7.2.2.2.2 + (1 : Int))))))))
    else
      none
  else
    some (.inr x.2.1)
noncomputable def cx_prog_Count_8 : Ctx := { tb := mkTb T2.tbl, fx := [(11, [], Spec.shp si_prog_Right so_prog_Right F_prog_Right), (29, [], Spec.shp si_prog_in so_prog_in F_prog_in)], sum := [(0, 11, pieceSpec sh_prog_Count_11 es_prog_Count_11 (loop L_prog_Count_11))], nt := 41, pin := 0, nr := true, ys := [] }
theorem L_prog_Count_8_ok : CSound Try.prog ⟨41, 0, true⟩ (.loop (loopOf 8 Try.f12)) (pieceSpec sh_prog_Count_8 es_prog_Count_8 (loop L_prog_Count_8)) :=
  loop_sound (C := cx_prog_Count_8) (ctxOK mixed tbl_ok rfl ⟨F_prog_Right_ok, F_prog_in_ok, trivial⟩ trivial) (SumOK.of ⟨(pieces_one (d := .loop (loopOf 11 Try.f12)) (by kernel_rfl) L_prog_Count_11_ok), trivial⟩) sh_prog_Count_8 es_prog_Count_8 rfl rfl L_prog_Count_8 (fun x => by kernel_rfl)
abbrev si_prog_Count : Shape := { sl := [(0, (.hole (.pair (.slice (.int .i64)) (.pair (.int .i64) (.pair (.int .i64) (.pair (.int .i64) (.pair (.slice (.pair (.slice (.pair .bool (.int .i64))) .bool)) (.slice (.slice (.pair (.int .i64) (.pair (.int .i64) (.int .i64)))))))))))), (1, (.hole (.int .i64)))], bl := [], ts := [(.pair (.slice (.int .i64)) (.pair (.int .i64) (.pair (.int .i64) (.pair (.int .i64) (.pair (.slice (.pair (.slice (.pair .bool (.int .i64))) .bool)) (.slice (.slice (.pair (.int .i64) (.pair (.int .i64) (.int .i64)))))))))), (.int .i64)], pin := 0 }
abbrev so_prog_Count : Shape := { sl := [(0, (.hole (.int .i64))), (1, (.hole (.int .i64)))], bl := [], ts := [(.int .i64), (.int .i64)], pin := 0 }
noncomputable def F_prog_Count (x : ((List (Int) × (Int × (Int × (Int × (List ((List ((Bool × Int)) × Bool)) × List (List ((Int × (Int × Int))))))))) × Int)) : Option (Int × Int) :=
  ((F_prog_Right x.1)).bind fun r4 =>
  bif (Bool.not r4) then
    some ((0 : Int), (1 : Int))
  else
    ((F_prog_in (x.2, ((0 : Int), (13 : Int))))).bind fun r5 =>
    bif (Bool.not r5) then
      some ((0 : Int), (11 : Int))
    else
      ((loop L_prog_Count_8 (x.2, ((0 : Int), (x.1.2.2.2.2.2, ((((List.length x.1.2.2.2.2.2) : Nat) : Int), (0 : Int))))))).bind fun r6 =>
      some (r6, (0 : Int))
noncomputable def cx_prog_Count : Ctx := { tb := mkTb T2.tbl, fx := [(11, [], Spec.shp si_prog_Right so_prog_Right F_prog_Right), (29, [], Spec.shp si_prog_in so_prog_in F_prog_in)], sum := [(0, 11, pieceSpec sh_prog_Count_11 es_prog_Count_11 (loop L_prog_Count_11)), (0, 8, pieceSpec sh_prog_Count_8 es_prog_Count_8 (loop L_prog_Count_8))], nt := 41, pin := 0, nr := true, ys := [] }
theorem F_prog_Count_ok : Sound Try.prog 12 (Spec.shp si_prog_Count so_prog_Count F_prog_Count) :=
  Sound.shp (C := cx_prog_Count) (fn := Try.f12) (by kernel_rfl) (c := bodyOf Try.f12) (by kernel_rfl) (by decide) (ctxOK mixed tbl_ok rfl ⟨F_prog_Right_ok, F_prog_in_ok, trivial⟩ trivial) (SumOK.of ⟨(pieces_one (d := .loop (loopOf 11 Try.f12)) (by kernel_rfl) L_prog_Count_11_ok), (pieces_one (d := .loop (loopOf 8 Try.f12)) (by kernel_rfl) L_prog_Count_8_ok), trivial⟩) (by kernel_rfl) si_prog_Count so_prog_Count rfl (by decide) (by decide) rfl (by decide) rfl F_prog_Count (fun x => by kernel_rfl)
abbrev si_plaitlaw06_alive : Shape := { sl := [], bl := [], ts := [], pin := 0 }
abbrev so_plaitlaw06_alive : Shape := { sl := [(0, (.hole .bool))], bl := [], ts := [.bool], pin := 0 }
noncomputable def F_plaitlaw06_alive (x : Unit) : Option (Bool) :=
  ((F_prog_Wrong (([] : List Int), ((0 : Int), ((0 : Int), ((0 : Int), (([] : List ((List (Bool × Int)) × Bool)), ((((1 : Int), ((0 : Int), (0 : Int))) :: ([] : List (Int × (Int × Int)))) :: ([] : List (List (Int × (Int × Int)))))))))))).bind fun r5 =>
  bif (r5.1 == (0 : Int)) then
    bif (r5.2.1 == (0 : Int)) then
      bif (r5.2.2 == (3 : Int)) then
        ((F_prog_Right (([] : List Int), ((0 : Int), ((0 : Int), ((0 : Int), (([] : List ((List (Bool × Int)) × Bool)), (([] : List (Int × (Int × Int))) :: ([] : List (List (Int × (Int × Int)))))))))))).bind fun r6 =>
        some r6
      else
        some false
    else
      some false
  else
    some false
noncomputable def cx_plaitlaw06_alive : Ctx := { tb := mkTb T2.tbl, fx := [(23, [2000000], Spec.shp si_prog_Wrong so_prog_Wrong F_prog_Wrong), (11, [2000000], Spec.shp si_prog_Right so_prog_Right F_prog_Right)], sum := [], nt := 29, pin := 0, nr := true, ys := [] }
theorem F_plaitlaw06_alive_ok : Sound Try.prog 13 (Spec.shp si_plaitlaw06_alive so_plaitlaw06_alive F_plaitlaw06_alive) :=
  Sound.shp (C := cx_plaitlaw06_alive) (fn := Try.f13) (by kernel_rfl) (c := bodyOf Try.f13) (by kernel_rfl) (by decide) (ctxOK mixed tbl_ok rfl ⟨F_prog_Wrong_ok, F_prog_Right_ok, trivial⟩ trivial) (SumOK.of trivial) (by kernel_rfl) si_plaitlaw06_alive so_plaitlaw06_alive rfl (by decide) (by decide) rfl (by decide) rfl F_plaitlaw06_alive (fun x => by kernel_rfl)
abbrev sh_plaitlaw06_ProgCounts_8 : Shape := { sl := [(1, (.ptr 0 [])), (5, (.hole (.int .i64))), (6, (.hole (.int .i64))), (33, (.hole (.int .i64)))], bl := [.var (.hole (.pair (.slice (.int .i64)) (.pair (.int .i64) (.pair (.int .i64) (.pair (.int .i64) (.pair (.slice (.pair (.slice (.pair .bool (.int .i64))) .bool)) (.slice (.slice (.pair (.int .i64) (.pair (.int .i64) (.int .i64)))))))))))], ts := [(.int .i64), (.int .i64), (.int .i64), (.pair (.slice (.int .i64)) (.pair (.int .i64) (.pair (.int .i64) (.pair (.int .i64) (.pair (.slice (.pair (.slice (.pair .bool (.int .i64))) .bool)) (.slice (.slice (.pair (.int .i64) (.pair (.int .i64) (.int .i64))))))))))], pin := 0 }
abbrev es_plaitlaw06_ProgCounts_8 : List (ETag × Shape) := [(.ret, { sl := [(2, (.hole .bool))], bl := [], ts := [.bool], pin := 0 }), (.exit 0, { sl := [(1, (.ptr 0 [])), (5, (.hole (.int .i64))), (6, (.hole (.int .i64)))], bl := [.var (.hole (.pair (.slice (.int .i64)) (.pair (.int .i64) (.pair (.int .i64) (.pair (.int .i64) (.pair (.slice (.pair (.slice (.pair .bool (.int .i64))) .bool)) (.slice (.slice (.pair (.int .i64) (.pair (.int .i64) (.int .i64)))))))))))], ts := [(.int .i64), (.int .i64), (.pair (.slice (.int .i64)) (.pair (.int .i64) (.pair (.int .i64) (.pair (.int .i64) (.pair (.slice (.pair (.slice (.pair .bool (.int .i64))) .bool)) (.slice (.slice (.pair (.int .i64) (.pair (.int .i64) (.int .i64))))))))))], pin := 0 })]
noncomputable def L_plaitlaw06_ProgCounts_8 (x : (Int × Int × Int × (List (Int) × (Int × (Int × (Int × (List ((List ((Bool × Int)) × Bool)) × List (List ((Int × (Int × Int))))))))))) : Option ((Int × Int × Int × (List (Int) × (Int × (Int × (Int × (List ((List ((Bool × Int)) × Bool)) × List (List ((Int × (Int × Int)))))))))) ⊕ ((Bool) ⊕ (Int × Int × (List (Int) × (Int × (Int × (Int × (List ((List ((Bool × Int)) × Bool)) × List (List ((Int × (Int × Int)))))))))))) :=
  bif (decide (x.2.2.1 < (14 : Int))) then
    ((F_prog_Count (x.2.2.2, x.2.2.1))).bind fun r4 =>
    bif (r4.2 != (0 : Int)) then
      some (.inr (.inl false))
    else
      bif (decide (r4.1 < (0 : Int))) then
        some (.inr (.inl false))
      else
        some (.inl ((Go.IntKind.wrap Go.IntKind.i64 (x.1 + r4.1)), (x.2.1, ((Go.IntKind.wrap Go.IntKind.i64 (x.2.2.1 + (1 : Int))), x.2.2.2))))
  else
    some (.inr (.inr (x.1, (x.2.1, x.2.2.2))))
noncomputable def cx_plaitlaw06_ProgCounts_8 : Ctx := { tb := mkTb T2.tbl, fx := [(10, [], Spec.shp si_plaitlaw06_few so_plaitlaw06_few F_plaitlaw06_few), (11, [], Spec.shp si_prog_Right so_prog_Right F_prog_Right), (12, [], Spec.shp si_prog_Count so_prog_Count F_prog_Count), (13, [], Spec.shp si_plaitlaw06_alive so_plaitlaw06_alive F_plaitlaw06_alive)], sum := [], nt := 123, pin := 0, nr := true, ys := [] }
theorem L_plaitlaw06_ProgCounts_8_ok : CSound Try.prog ⟨123, 0, true⟩ (.loop (loopOf 8 Try.f3)) (pieceSpec sh_plaitlaw06_ProgCounts_8 es_plaitlaw06_ProgCounts_8 (loop L_plaitlaw06_ProgCounts_8)) :=
  loop_sound (C := cx_plaitlaw06_ProgCounts_8) (ctxOK mixed tbl_ok rfl ⟨F_plaitlaw06_few_ok, F_prog_Right_ok, F_prog_Count_ok, F_plaitlaw06_alive_ok, trivial⟩ trivial) (SumOK.of trivial) sh_plaitlaw06_ProgCounts_8 es_plaitlaw06_ProgCounts_8 rfl rfl L_plaitlaw06_ProgCounts_8 (fun x => by kernel_rfl)
abbrev sh_plaitlaw06_ProgCounts_20 : Shape := { sl := [(1, (.ptr 0 [])), (5, (.hole (.int .i64))), (6, (.hole (.int .i64))), (11, (.hole (.slice (.pair (.int .i64) (.pair (.int .i64) (.int .i64)))))), (53, (.hole (.slice (.slice (.pair (.int .i64) (.pair (.int .i64) (.int .i64))))))), (54, (.hole (.int .i64))), (55, (.hole (.int .i64))), (63, (.hole (.slice (.pair (.int .i64) (.pair (.int .i64) (.int .i64)))))), (64, (.hole (.int .i64))), (65, (.hole (.int .i64)))], bl := [.var (.hole (.pair (.slice (.int .i64)) (.pair (.int .i64) (.pair (.int .i64) (.pair (.int .i64) (.pair (.slice (.pair (.slice (.pair .bool (.int .i64))) .bool)) (.slice (.slice (.pair (.int .i64) (.pair (.int .i64) (.int .i64)))))))))))], ts := [(.int .i64), (.int .i64), (.slice (.pair (.int .i64) (.pair (.int .i64) (.int .i64)))), (.slice (.slice (.pair (.int .i64) (.pair (.int .i64) (.int .i64))))), (.int .i64), (.int .i64), (.slice (.pair (.int .i64) (.pair (.int .i64) (.int .i64)))), (.int .i64), (.int .i64), (.pair (.slice (.int .i64)) (.pair (.int .i64) (.pair (.int .i64) (.pair (.int .i64) (.pair (.slice (.pair (.slice (.pair .bool (.int .i64))) .bool)) (.slice (.slice (.pair (.int .i64) (.pair (.int .i64) (.int .i64))))))))))], pin := 0 }
abbrev es_plaitlaw06_ProgCounts_20 : List (ETag × Shape) := [(.ret, { sl := [(2, (.hole .bool))], bl := [], ts := [.bool], pin := 0 }), (.exit 4, { sl := [(1, (.ptr 0 [])), (5, (.hole (.int .i64))), (6, (.hole (.int .i64))), (53, (.hole (.slice (.slice (.pair (.int .i64) (.pair (.int .i64) (.int .i64))))))), (54, (.hole (.int .i64))), (55, (.hole (.int .i64)))], bl := [.var (.hole (.pair (.slice (.int .i64)) (.pair (.int .i64) (.pair (.int .i64) (.pair (.int .i64) (.pair (.slice (.pair (.slice (.pair .bool (.int .i64))) .bool)) (.slice (.slice (.pair (.int .i64) (.pair (.int .i64) (.int .i64)))))))))))], ts := [(.int .i64), (.int .i64), (.slice (.slice (.pair (.int .i64) (.pair (.int .i64) (.int .i64))))), (.int .i64), (.int .i64), (.pair (.slice (.int .i64)) (.pair (.int .i64) (.pair (.int .i64) (.pair (.int .i64) (.pair (.slice (.pair (.slice (.pair .bool (.int .i64))) .bool)) (.slice (.slice (.pair (.int .i64) (.pair (.int .i64) (.int .i64))))))))))], pin := 0 })]
noncomputable def L_plaitlaw06_ProgCounts_20 (x : (Int × Int × List ((Int × (Int × Int))) × List (List ((Int × (Int × Int)))) × Int × Int × List ((Int × (Int × Int))) × Int × Int × (List (Int) × (Int × (Int × (Int × (List ((List ((Bool × Int)) × Bool)) × List (List ((Int × (Int × Int))))))))))) : Option ((Int × Int × List ((Int × (Int × Int))) × List (List ((Int × (Int × Int)))) × Int × Int × List ((Int × (Int × Int))) × Int × Int × (List (Int) × (Int × (Int × (Int × (List ((List ((Bool × Int)) × Bool)) × List (List ((Int × (Int × Int)))))))))) ⊕ ((Bool) ⊕ (Int × Int × List (List ((Int × (Int × Int)))) × Int × Int × (List (Int) × (Int × (Int × (Int × (List ((List ((Bool × Int)) × Bool)) × List (List ((Int × (Int × Int)))))))))))) :=
  bif (decide (x.2.2.2.2.2.2.2.2.1 < x.2.2.2.2.2.2.2.1)) then
    bif (Go.Proofs.Ytagjaiammndjoaa.VX.inb x.2.2.2.2.2.2.2.2.1 (List.length x.2.2.2.2.2.2.1)) then
      bif ((Go.Proofs.Ytagjaiammndjoaa.VX.getAt ((0 : Int), ((0 : Int), (0 : Int))) x.2.2.2.2.2.2.1 (Go.Proofs.Ytagjaiammndjoaa.VX.toN x.2.2.2.2.2.2.2.2.1)).1 == (1 : Int)) then
        bif (decide ((Go.Proofs.Ytagjaiammndjoaa.VX.getAt ((0 : Int), ((0 : Int), (0 : Int))) x.2.2.2.2.2.2.1 (Go.Proofs.Ytagjaiammndjoaa.VX.toN x.2.2.2.2.2.2.2.2.1)).2.1 ≥ (((List.length x.2.2.2.2.2.2.2.2.2.1) : Nat) : Int))) then
          some (.inr (.inl false))
        else
          bif ((Go.Proofs.Ytagjaiammndjoaa.VX.getAt ((0 : Int), ((0 : Int), (0 : Int))) x.2.2.2.2.2.2.1 (Go.Proofs.Ytagjaiammndjoaa.VX.toN x.2.2.2.2.2.2.2.2.1)).1 == (9 : Int)) then
            bif (decide ((Go.Proofs.Ytagjaiammndjoaa.VX.getAt ((0 : Int), ((0 : Int), (0 : Int))) x.2.2.2.2.2.2.1 (Go.Proofs.Ytagjaiammndjoaa.VX.toN x.2.2.2.2.2.2.2.2.1)).2.1 ≥ (((List.length x.2.2.2.2.2.2.2.2.2.2.2.2.2.2) : Nat) : Int))) then
              some (.inr (.inl false))
            else
              bif ((Go.Proofs.Ytagjaiammndjoaa.VX.getAt ((0 : Int), ((0 : Int), (0 : Int))) x.2.2.2.2.2.2.1 (Go.Proofs.Ytagjaiammndjoaa.VX.toN x.2.2.2.2.2.2.2.2.1)).1 == (12 : Int)) then
                bif (decide ((Go.Proofs.Ytagjaiammndjoaa.VX.getAt ((0 : Int), ((0 : Int), (0 : Int))) x.2.2.2.2.2.2.1 (Go.Proofs.Ytagjaiammndjoaa.VX.toN x.2.2.2.2.2.2.2.2.1)).2.1 > (((List.length x.2.2.1) : Nat) : Int))) then
                  some (.inr (.inl false))
                else
                  bif (decide ((Go.Proofs.Ytagjaiammndjoaa.VX.getAt ((0 : Int), ((0 : Int), (0 : Int))) x.2.2.2.2.2.2.1 (Go.Proofs.Ytagjaiammndjoaa.VX.toN x.2.2.2.2.2.2.2.2.1)).2.1 < (0 : Int))) then
                    some (.inr (.inl false))
                  else
                    bif (decide ((Go.Proofs.Ytagjaiammndjoaa.VX.getAt ((0 : Int), ((0 : Int), (0 : Int))) x.2.2.2.2.2.2.1 (Go.Proofs.Ytagjaiammndjoaa.VX.toN x.2.2.2.2.2.2.2.2.1)).2.2 < (0 : Int))) then
                      some (.inr (.inl false))
                    else
                      some (.inl (x.1, (x.2.1, (x.2.2.1, (x.2.2.2.1, (x.2.2.2.2.1, (x.2.2.2.2.2.1, (x.2.2.2.2.2.2.1, (x.2.2.2.2.2.2.2.1, ((Go.IntKind.wrap Go.IntKind.i64 (x.2.2.2.2.2.2.2.2.1 + (1 : Int))), x.2.2.2.2.2.2.2.2.2))))))))))
              else
                bif (decide ((Go.Proofs.Ytagjaiammndjoaa.VX.getAt ((0 : Int), ((0 : Int), (0 : Int))) x.2.2.2.2.2.2.1 (Go.Proofs.Ytagjaiammndjoaa.VX.toN x.2.2.2.2.2.2.2.2.1)).2.1 < (0 : Int))) then
                  some (.inr (.inl false))
                else
                  bif (decide ((Go.Proofs.Ytagjaiammndjoaa.VX.getAt ((0 : Int), ((0 : Int), (0 : Int))) x.2.2.2.2.2.2.1 (Go.Proofs.Ytagjaiammndjoaa.VX.toN x.2.2.2.2.2.2.2.2.1)).2.2 < (0 : Int))) then
                    some (.inr (.inl false))
                  else
                    some (.inl (x.1, (x.2.1, (x.2.2.1, (x.2.2.2.1, (x.2.2.2.2.1, (x.2.2.2.2.2.1, (x.2.2.2.2.2.2.1, (x.2.2.2.2.2.2.2.1, ((Go.IntKind.wrap Go.IntKind.i64 (x.2.2.2.2.2.2.2.2.1 + (1 : Int))), x.2.2.2.2.2.2.2.2.2))))))))))
          else
            bif ((Go.Proofs.Ytagjaiammndjoaa.VX.getAt ((0 : Int), ((0 : Int), (0 : Int))) x.2.2.2.2.2.2.1 (Go.Proofs.Ytagjaiammndjoaa.VX.toN x.2.2.2.2.2.2.2.2.1)).1 == (12 : Int)) then
              bif (decide ((Go.Proofs.Ytagjaiammndjoaa.VX.getAt ((0 : Int), ((0 : Int), (0 : Int))) x.2.2.2.2.2.2.1 (Go.Proofs.Ytagjaiammndjoaa.VX.toN x.2.2.2.2.2.2.2.2.1)).2.1 > (((List.length x.2.2.1) : Nat) : Int))) then
                some (.inr (.inl false))
              else
                bif (decide ((Go.Proofs.Ytagjaiammndjoaa.VX.getAt ((0 : Int), ((0 : Int), (0 : Int))) x.2.2.2.2.2.2.1 (Go.Proofs.Ytagjaiammndjoaa.VX.toN x.2.2.2.2.2.2.2.2.1)).2.1 < (0 : Int))) then
                  some (.inr (.inl false))
                else
                  bif (decide ((Go.Proofs.Ytagjaiammndjoaa.VX.getAt ((0 : Int), ((0 : Int), (0 : Int))) x.2.2.2.2.2.2.1 (Go.Proofs.Ytagjaiammndjoaa.VX.toN x.2.2.2.2.2.2.2.2.1)).2.2 < (0 : Int))) then
                    some (.inr (.inl false))
                  else
                    some (.inl (x.1, (x.2.1, (x.2.2.1, (x.2.2.2.1, (x.2.2.2.2.1, (x.2.2.2.2.2.1, (x.2.2.2.2.2.2.1, (x.2.2.2.2.2.2.2.1, ((Go.IntKind.wrap Go.IntKind.i64 (x.2.2.2.2.2.2.2.2.1 + (1 : Int))), x.2.2.2.2.2.2.2.2.2))))))))))
            else
              bif (decide ((Go.Proofs.Ytagjaiammndjoaa.VX.getAt ((0 : Int), ((0 : Int), (0 : Int))) x.2.2.2.2.2.2.1 (Go.Proofs.Ytagjaiammndjoaa.VX.toN x.2.2.2.2.2.2.2.2.1)).2.1 < (0 : Int))) then
                some (.inr (.inl false))
              else
                bif (decide ((Go.Proofs.Ytagjaiammndjoaa.VX.getAt ((0 : Int), ((0 : Int), (0 : Int))) x.2.2.2.2.2.2.1 (Go.Proofs.Ytagjaiammndjoaa.VX.toN x.2.2.2.2.2.2.2.2.1)).2.2 < (0 : Int))) then
                  some (.inr (.inl false))
                else
                  some (.inl (x.1, (x.2.1, (x.2.2.1, (x.2.2.2.1, (x.2.2.2.2.1, (x.2.2.2.2.2.1, (x.2.2.2.2.2.2.1, (x.2.2.2.2.2.2.2.1, ((Go.IntKind.wrap Go.IntKind.i64 (x.2.2.2.2.2.2.2.2.1 + (1 : Int))), x.2.2.2.2.2.2.2.2.2))))))))))
      else
        bif ((Go.Proofs.Ytagjaiammndjoaa.VX.getAt ((0 : Int), ((0 : Int), (0 : Int))) x.2.2.2.2.2.2.1 (Go.Proofs.Ytagjaiammndjoaa.VX.toN x.2.2.2.2.2.2.2.2.1)).1 == (9 : Int)) then
          bif (decide ((Go.Proofs.Ytagjaiammndjoaa.VX.getAt ((0 : Int), ((0 : Int), (0 : Int))) x.2.2.2.2.2.2.1 (Go.Proofs.Ytagjaiammndjoaa.VX.toN x.2.2.2.2.2.2.2.2.1)).2.1 ≥ (((List.length x.2.2.2.2.2.2.2.2.2.2.2.2.2.2) : Nat) : Int))) then
            some (.inr (.inl false))
          else
            bif ((Go.Proofs.Ytagjaiammndjoaa.VX.getAt ((0 : Int), ((0 : Int), (0 : Int))) x.2.2.2.2.2.2.1 (Go.Proofs.Ytagjaiammndjoaa.VX.toN x.2.2.2.2.2.2.2.2.1)).1 == (12 : Int)) then
              bif (decide ((Go.Proofs.Ytagjaiammndjoaa.VX.getAt ((0 : Int), ((0 : Int), (0 : Int))) x.2.2.2.2.2.2.1 (Go.Proofs.Ytagjaiammndjoaa.VX.toN x.2.2.2.2.2.2.2.2.1)).2.1 > (((List.length x.2.2.1) : Nat) : Int))) then
                some (.inr (.inl false))
              else
                bif (decide ((Go.Proofs.Ytagjaiammndjoaa.VX.getAt ((0 : Int), ((0 : Int), (0 : Int))) x.2.2.2.2.2.2.1 (Go.Proofs.Ytagjaiammndjoaa.VX.toN x.2.2.2.2.2.2.2.2.1)).2.1 < (0 : Int))) then
                  some (.inr (.inl false))
                else
                  bif (decide ((Go.Proofs.Ytagjaiammndjoaa.VX.getAt ((0 : Int), ((0 : Int), (0 : Int))) x.2.2.2.2.2.2.1 (Go.Proofs.Ytagjaiammndjoaa.VX.toN x.2.2.2.2.2.2.2.2.1)).2.2 < (0 : Int))) then
                    some (.inr (.inl false))
                  else
                    some (.inl (x.1, (x.2.1, (x.2.2.1, (x.2.2.2.1, (x.2.2.2.2.1, (x.2.2.2.2.2.1, (x.2.2.2.2.2.2.1, (x.2.2.2.2.2.2.2.1, ((Go.IntKind.wrap Go.IntKind.i64 (x.2.2.2.2.2.2.2.2.1 + (1 : Int))), x.2.2.2.2.2.2.2.2.2))))))))))
            else
              bif (decide ((Go.Proofs.Ytagjaiammndjoaa.VX.getAt ((0 : Int), ((0 : Int), (0 : Int))) x.2.2.2.2.2.2.1 (Go.Proofs.Ytagjaiammndjoaa.VX.toN x.2.2.2.2.2.2.2.2.1)).2.1 < (0 : Int))) then
                some (.inr (.inl false))
              else
                bif (decide ((Go.Proofs.Ytagjaiammndjoaa.VX.getAt ((0 : Int), ((0 : Int), (0 : Int))) x.2.2.2.2.2.2.1 (Go.Proofs.Ytagjaiammndjoaa.VX.toN x.2.2.2.2.2.2.2.2.1)).2.2 < (0 : Int))) then
                  some (.inr (.inl false))
                else
                  some (.inl (x.1, (x.2.1, (x.2.2.1, (x.2.2.2.1, (x.2.2.2.2.1, (x.2.2.2.2.2.1, (x.2.2.2.2.2.2.1, (x.2.2.2.2.2.2.2.1, ((Go.IntKind.wrap Go.IntKind.i64 (x.2.2.2.2.2.2.2.2.1 + (1 : Int))), x.2.2.2.2.2.2.2.2.2))))))))))
        else
          bif ((Go.Proofs.Ytagjaiammndjoaa.VX.getAt ((0 : Int), ((0 : Int), (0 : Int))) x.2.2.2.2.2.2.1 (Go.Proofs.Ytagjaiammndjoaa.VX.toN x.2.2.2.2.2.2.2.2.1)).1 == (12 : Int)) then
            bif (decide ((Go.Proofs.Ytagjaiammndjoaa.VX.getAt ((0 : Int), ((0 : Int), (0 : Int))) x.2.2.2.2.2.2.1 (Go.Proofs.Ytagjaiammndjoaa.VX.toN x.2.2.2.2.2.2.2.2.1)).2.1 > (((List.length x.2.2.1) : Nat) : Int))) then
              some (.inr (.inl false))
            else
              bif (decide ((Go.Proofs.Ytagjaiammndjoaa.VX.getAt ((0 : Int), ((0 : Int), (0 : Int))) x.2.2.2.2.2.2.1 (Go.Proofs.Ytagjaiammndjoaa.VX.toN x.2.2.2.2.2.2.2.2.1)).2.1 < (0 : Int))) then
                some (.inr (.inl false))
              else
                bif (decide ((Go.Proofs.Ytagjaiammndjoaa.VX.getAt ((0 : Int), ((0 : Int), (0 : Int))) x.2.2.2.2.2.2.1 (Go.Proofs.Ytagjaiammndjoaa.VX.toN x.2.2.2.2.2.2.2.2.1)).2.2 < (0 : Int))) then
                  some (.inr (.inl false))
                else
                  some (.inl (x.1, (x.2.1, (x.2.2.1, (x.2.2.2.1, (x.2.2.2.2.1, (x.2.2.2.2.2.1, (x.2.2.2.2.2.2.1, (x.2.2.2.2.2.2.2.1, ((Go.IntKind.wrap Go.IntKind.i64 (x.2.2.2.2.2.2.2.2.1 + (1 : Int))), x.2.2.2.2.2.2.2.2.2))))))))))
          else
            bif (decide ((Go.Proofs.Ytagjaiammndjoaa.VX.getAt ((0 : Int), ((0 : Int), (0 : Int))) x.2.2.2.2.2.2.1 (Go.Proofs.Ytagjaiammndjoaa.VX.toN x.2.2.2.2.2.2.2.2.1)).2.1 < (0 : Int))) then
              some (.inr (.inl false))
            else
              bif (decide ((Go.Proofs.Ytagjaiammndjoaa.VX.getAt ((0 : Int), ((0 : Int), (0 : Int))) x.2.2.2.2.2.2.1 (Go.Proofs.Ytagjaiammndjoaa.VX.toN x.2.2.2.2.2.2.2.2.1)).2.2 < (0 : Int))) then
                some (.inr (.inl false))
              else
                some (.inl (x.1, (x.2.1, (x.2.2.1, (x.2.2.2.1, (x.2.2.2.2.1, (x.2.2.2.2.2.1, (x.2.2.2.2.2.2.1, (x.2.2.2.2.2.2.2.1, ((Go.IntKind.wrap Go.IntKind.i64 (x.2.2.2.2.2.2.2.2.1 + (1 : Int))), x.2.2.2.2.2.2.2.2.2))))))))))
    else
      none
  else
    some (.inr (.inr (x.1, (x.2.1, (x.2.2.2.1, (x.2.2.2.2.1, (x.2.2.2.2.2.1, x.2.2.2.2.2.2.2.2.2)))))))
noncomputable def cx_plaitlaw06_ProgCounts_20 : Ctx := { tb := mkTb T2.tbl, fx := [(10, [], Spec.shp si_plaitlaw06_few so_plaitlaw06_few F_plaitlaw06_few), (11, [], Spec.shp si_prog_Right so_prog_Right F_prog_Right), (12, [], Spec.shp si_prog_Count so_prog_Count F_prog_Count), (13, [], Spec.shp si_plaitlaw06_alive so_plaitlaw06_alive F_plaitlaw06_alive)], sum := [(0, 8, pieceSpec sh_plaitlaw06_ProgCounts_8 es_plaitlaw06_ProgCounts_8 (loop L_plaitlaw06_ProgCounts_8))], nt := 123, pin := 0, nr := true, ys := [] }
theorem L_plaitlaw06_ProgCounts_20_ok : CSound Try.prog ⟨123, 0, true⟩ (.loop (loopOf 20 Try.f3)) (pieceSpec sh_plaitlaw06_ProgCounts_20 es_plaitlaw06_ProgCounts_20 (loop L_plaitlaw06_ProgCounts_20)) :=
  loop_sound (C := cx_plaitlaw06_ProgCounts_20) (ctxOK mixed tbl_ok rfl ⟨F_plaitlaw06_few_ok, F_prog_Right_ok, F_prog_Count_ok, F_plaitlaw06_alive_ok, trivial⟩ trivial) (SumOK.of ⟨(pieces_none (by kernel_rfl)), trivial⟩) sh_plaitlaw06_ProgCounts_20 es_plaitlaw06_ProgCounts_20 rfl rfl L_plaitlaw06_ProgCounts_20 (fun x => by kernel_rfl)
abbrev sh_plaitlaw06_ProgCounts_16 : Shape := { sl := [(1, (.ptr 0 [])), (5, (.hole (.int .i64))), (6, (.hole (.int .i64))), (53, (.hole (.slice (.slice (.pair (.int .i64) (.pair (.int .i64) (.int .i64))))))), (54, (.hole (.int .i64))), (55, (.hole (.int .i64)))], bl := [.var (.hole (.pair (.slice (.int .i64)) (.pair (.int .i64) (.pair (.int .i64) (.pair (.int .i64) (.pair (.slice (.pair (.slice (.pair .bool (.int .i64))) .bool)) (.slice (.slice (.pair (.int .i64) (.pair (.int .i64) (.int .i64)))))))))))], ts := [(.int .i64), (.int .i64), (.slice (.slice (.pair (.int .i64) (.pair (.int .i64) (.int .i64))))), (.int .i64), (.int .i64), (.pair (.slice (.int .i64)) (.pair (.int .i64) (.pair (.int .i64) (.pair (.int .i64) (.pair (.slice (.pair (.slice (.pair .bool (.int .i64))) .bool)) (.slice (.slice (.pair (.int .i64) (.pair (.int .i64) (.int .i64))))))))))], pin := 0 }
abbrev es_plaitlaw06_ProgCounts_16 : List (ETag × Shape) := [(.ret, { sl := [(2, (.hole .bool))], bl := [], ts := [.bool], pin := 0 }), (.exit 2, { sl := [(5, (.hole (.int .i64))), (6, (.hole (.int .i64)))], bl := [], ts := [(.int .i64), (.int .i64)], pin := 0 })]
noncomputable def L_plaitlaw06_ProgCounts_16 (x : (Int × Int × List (List ((Int × (Int × Int)))) × Int × Int × (List (Int) × (Int × (Int × (Int × (List ((List ((Bool × Int)) × Bool)) × List (List ((Int × (Int × Int))))))))))) : Option ((Int × Int × List (List ((Int × (Int × Int)))) × Int × Int × (List (Int) × (Int × (Int × (Int × (List ((List ((Bool × Int)) × Bool)) × List (List ((Int × (Int × Int)))))))))) ⊕ ((Bool) ⊕ (Int × Int))) :=
  bif (decide (x.2.2.2.2.1 < x.2.2.2.1)) then
    bif (Go.Proofs.Ytagjaiammndjoaa.VX.inb x.2.2.2.2.1 (List.length x.2.2.1)) then
      ((loop L_plaitlaw06_ProgCounts_20 (x.1, ((Go.IntKind.wrap Go.IntKind.i64 (x.2.1 + (((List.length (Go.Proofs.Ytagjaiammndjoaa.VX.getAt ([] : List (Int × (Int × Int))) x.2.2.1 (Go.Proofs.Ytagjaiammndjoaa.VX.toN x.2.2.2.2.1))) : Nat) : Int))), ((Go.Proofs.Ytagjaiammndjoaa.VX.getAt ([] : List (Int × (Int × Int))) x.2.2.1 (Go.Proofs.Ytagjaiammndjoaa.VX.toN x.2.2.2.2.1)), (x.2.2.1, (x.2.2.2.1, (x.2.2.2.2.1, ((Go.Proofs.Ytagjaiammndjoaa.VX.getAt ([] : List (Int × (Int × Int))) x.2.2.1 (Go.Proofs.Ytagjaiammndjoaa.VX.toN x.2.2.2.2.1)), ((((List.length (Go.Proofs.Ytagjaiammndjoaa.VX.getAt ([] : List (Int × (Int × Int))) x.2.2.1 (Go.Proofs.Ytagjaiammndjoaa.VX.toN x.2.2.2.2.1))) : Nat) : Int), ((0 : Int), x.2.2.2.2.2))))))))))).bind fun r6 =>
      match r6 with
      | .inl y7 =>
        some (.inr (.inl y7))
      | .inr y7 =>
        some (.inl (y7.1, (y7.2.1, (y7.2.2.1, (y7.2.2.2.1, ((Go.IntKind.wrap Go.IntKind.i64 (y7.2.2.2.2.1 + (1 : Int))), y7.2.2.2.2.2))))))
    else
      none
  else
    some (.inr (.inr (x.1, x.2.1)))
noncomputable def cx_plaitlaw06_ProgCounts_16 : Ctx := { tb := mkTb T2.tbl, fx := [(10, [], Spec.shp si_plaitlaw06_few so_plaitlaw06_few F_plaitlaw06_few), (11, [], Spec.shp si_prog_Right so_prog_Right F_prog_Right), (12, [], Spec.shp si_prog_Count so_prog_Count F_prog_Count), (13, [], Spec.shp si_plaitlaw06_alive so_plaitlaw06_alive F_plaitlaw06_alive)], sum := [(0, 8, pieceSpec sh_plaitlaw06_ProgCounts_8 es_plaitlaw06_ProgCounts_8 (loop L_plaitlaw06_ProgCounts_8)), (0, 20, pieceSpec sh_plaitlaw06_ProgCounts_20 es_plaitlaw06_ProgCounts_20 (loop L_plaitlaw06_ProgCounts_20))], nt := 123, pin := 0, nr := true, ys := [] }
theorem L_plaitlaw06_ProgCounts_16_ok : CSound Try.prog ⟨123, 0, true⟩ (.loop (loopOf 16 Try.f3)) (pieceSpec sh_plaitlaw06_ProgCounts_16 es_plaitlaw06_ProgCounts_16 (loop L_plaitlaw06_ProgCounts_16)) :=
  loop_sound (C := cx_plaitlaw06_ProgCounts_16) (ctxOK mixed tbl_ok rfl ⟨F_plaitlaw06_few_ok, F_prog_Right_ok, F_prog_Count_ok, F_plaitlaw06_alive_ok, trivial⟩ trivial) (SumOK.of ⟨(pieces_none (by kernel_rfl)), (pieces_one (d := .loop (loopOf 20 Try.f3)) (by kernel_rfl) L_plaitlaw06_ProgCounts_20_ok), trivial⟩) sh_plaitlaw06_ProgCounts_16 es_plaitlaw06_ProgCounts_16 rfl rfl L_plaitlaw06_ProgCounts_16 (fun x => by kernel_rfl)
noncomputable def F_plaitlaw06_ProgCounts (x : ((List (Int) × (Int × (Int × (Int × (List ((List ((Bool × Int)) × Bool)) × List (List ((Int × (Int × Int))))))))))) : Option (Bool) :=
  ((F_plaitlaw06_few x)).bind fun r1 =>
  ((F_prog_Right r1)).bind fun r2 =>
  bif (Bool.not r2) then
    ((F_prog_Count (r1, (0 : Int)))).bind fun r3 =>
    ((F_plaitlaw06_alive ())).bind fun r4 =>
    bif r4 then
      bif (r3.2 == (1 : Int)) then
        some (r3.1 == (0 : Int))
      else
        some false
    else
      some false
  else
    ((loop L_plaitlaw06_ProgCounts_8 ((0 : Int), ((0 : Int), ((0 : Int), r1))))).bind fun r3 =>
    match r3 with
    | .inl y4 =>
      some y4
    | .inr y4 =>
      ((loop L_plaitlaw06_ProgCounts_16 (y4.1, (y4.2.1, (y4.2.2.2.2.2.2.2, ((((List.length y4.2.2.2.2.2.2.2) : Nat) : Int), ((0 : Int), y4.2.2))))))).bind fun r5 =>
      match r5 with
      | .inl y6 =>
        some y6
      | .inr y6 =>
        ((F_plaitlaw06_alive ())).bind fun r7 =>
        bif r7 then
          some (y6.1 == y6.2)
        else
          some false
noncomputable def cx_plaitlaw06_ProgCounts : Ctx := { tb := mkTb T2.tbl, fx := [(10, [], Spec.shp si_plaitlaw06_few so_plaitlaw06_few F_plaitlaw06_few), (11, [], Spec.shp si_prog_Right so_prog_Right F_prog_Right), (12, [], Spec.shp si_prog_Count so_prog_Count F_prog_Count), (13, [], Spec.shp si_plaitlaw06_alive so_plaitlaw06_alive F_plaitlaw06_alive)], sum := [(0, 8, pieceSpec sh_plaitlaw06_ProgCounts_8 es_plaitlaw06_ProgCounts_8 (loop L_plaitlaw06_ProgCounts_8)), (0, 20, pieceSpec sh_plaitlaw06_ProgCounts_20 es_plaitlaw06_ProgCounts_20 (loop L_plaitlaw06_ProgCounts_20)), (0, 16, pieceSpec sh_plaitlaw06_ProgCounts_16 es_plaitlaw06_ProgCounts_16 (loop L_plaitlaw06_ProgCounts_16))], nt := 123, pin := 0, nr := true, ys := [] }
theorem F_plaitlaw06_ProgCounts_ok : Sound Try.prog 3 (Spec.pure [(.pair (.slice (.int .i64)) (.pair (.int .i64) (.pair (.int .i64) (.pair (.int .i64) (.pair (.slice (.pair (.slice (.pair .bool (.int .i64))) .bool)) (.slice (.slice (.pair (.int .i64) (.pair (.int .i64) (.int .i64))))))))))] [.bool] F_plaitlaw06_ProgCounts) :=
  Sound.pure (C := cx_plaitlaw06_ProgCounts) (fn := Try.f3) (by kernel_rfl) (c := bodyOf Try.f3) (by kernel_rfl) (by decide) (ctxOK mixed tbl_ok rfl ⟨F_plaitlaw06_few_ok, F_prog_Right_ok, F_prog_Count_ok, F_plaitlaw06_alive_ok, trivial⟩) (SumOK.of ⟨(pieces_one (d := .loop (loopOf 8 Try.f3)) (by kernel_rfl) L_plaitlaw06_ProgCounts_8_ok), (pieces_one (d := .loop (loopOf 20 Try.f3)) (by kernel_rfl) L_plaitlaw06_ProgCounts_20_ok), (pieces_one (d := .loop (loopOf 16 Try.f3)) (by kernel_rfl) L_plaitlaw06_ProgCounts_16_ok), trivial⟩) (by kernel_rfl) rfl _ _ (by decide) _ (fun x => by kernel_rfl)
abbrev sh_slices_Index_int_lent_3 : Shape := { sl := [(0, (.sl 0)), (1, (.hole (.int .i64))), (7, (.hole (.int .i64))), (8, (.hole (.int .i64)))], bl := [.row (.int .i64)], ts := [(.int .i64), (.int .i64), (.int .i64), (.slice (.int .i64))], pin := 1 }
abbrev es_slices_Index_int_lent_3 : List (ETag × Shape) := [(.ret, { sl := [(4, (.hole (.int .i64)))], bl := [.row (.int .i64)], ts := [(.int .i64), (.slice (.int .i64))], pin := 1 }), (.exit 0, { sl := [], bl := [.row (.int .i64)], ts := [(.slice (.int .i64))], pin := 1 })]
noncomputable def L_slices_Index_int_lent_3 (x : (Int × Int × Int × List (Int))) : Option ((Int × Int × Int × List (Int)) ⊕ ((Int × List (Int)) ⊕ (List (Int)))) :=
  bif (decide (x.2.2.1 < x.2.1)) then
    bif (Go.Proofs.Ytagjaiammndjoaa.VX.inb x.2.2.1 (List.length x.2.2.2)) then
      bif (x.1 == (Go.Proofs.Ytagjaiammndjoaa.VX.getAt (0 : Int) x.2.2.2 (Go.Proofs.Ytagjaiammndjoaa.VX.toN x.2.2.1))) then
        some (.inr (.inl (x.2.2.1, x.2.2.2)))
      else
        some (.inl (x.1, (x.2.1, ((Go.IntKind.wrap Go.IntKind.i64 (x.2.2.1 + (1 : Int))), x.2.2.2))))
    else
      none
  else
    some (.inr (.inr x.2.2.2))
noncomputable def cx_slices_Index_int_lent_3 : Ctx := { tb := mkTb T2.tbl, fx := [], sum := [], nt := 19, pin := 1, nr := true, ys := [] }
theorem L_slices_Index_int_lent_3_ok : CSound Try.prog ⟨19, 1, true⟩ (.loop (loopOf 3 Try.f67)) (pieceSpec sh_slices_Index_int_lent_3 es_slices_Index_int_lent_3 (loop L_slices_Index_int_lent_3)) :=
  loop_sound (C := cx_slices_Index_int_lent_3) (ctxOK mixed tbl_ok rfl trivial trivial) (SumOK.of trivial) sh_slices_Index_int_lent_3 es_slices_Index_int_lent_3 rfl rfl L_slices_Index_int_lent_3 (fun x => by kernel_rfl)
abbrev si_slices_Index_int_lent : Shape := { sl := [(0, (.sl 0)), (1, (.hole (.int .i64)))], bl := [.row (.int .i64)], ts := [(.int .i64), (.slice (.int .i64))], pin := 0 }
abbrev so_slices_Index_int_lent : Shape := { sl := [(0, (.hole (.int .i64)))], bl := [.row (.int .i64)], ts := [(.int .i64), (.slice (.int .i64))], pin := 1 }
noncomputable def F_slices_Index_int_lent (x : (Int × List (Int))) : Option (Int × List (Int)) :=
  ((loop L_slices_Index_int_lent_3 (x.1, ((((List.length x.2) : Nat) : Int), ((0 : Int), x.2))))).bind fun r9 =>
  match r9 with
  | .inl y10 =>
    some (y10.1, y10.2)
  | .inr y10 =>
    some ((Int.negSucc 0), y10)
noncomputable def cx_slices_Index_int_lent : Ctx := { tb := mkTb T2.tbl, fx := [], sum := [(0, 3, pieceSpec sh_slices_Index_int_lent_3 es_slices_Index_int_lent_3 (loop L_slices_Index_int_lent_3))], nt := 19, pin := 1, nr := true, ys := [] }
theorem F_slices_Index_int_lent_ok : Sound Try.prog 67 (Spec.shp si_slices_Index_int_lent so_slices_Index_int_lent F_slices_Index_int_lent) :=
  Sound.shp (C := cx_slices_Index_int_lent) (fn := Try.f67) (by kernel_rfl) (c := bodyOf Try.f67) (by kernel_rfl) (by decide) (ctxOK mixed tbl_ok rfl trivial trivial) (SumOK.of ⟨(pieces_one (d := .loop (loopOf 3 Try.f67)) (by kernel_rfl) L_slices_Index_int_lent_3_ok), trivial⟩) (by kernel_rfl) si_slices_Index_int_lent so_slices_Index_int_lent rfl (by decide) (by decide) rfl (by decide) rfl F_slices_Index_int_lent (fun x => by kernel_rfl)
abbrev si_slices_Contains_int_lent : Shape := { sl := [(0, (.sl 0)), (1, (.hole (.int .i64)))], bl := [.row (.int .i64)], ts := [(.int .i64), (.slice (.int .i64))], pin := 0 }
abbrev so_slices_Contains_int_lent : Shape := { sl := [(0, (.hole .bool))], bl := [.row (.int .i64)], ts := [.bool, (.slice (.int .i64))], pin := 1 }
noncomputable def F_slices_Contains_int_lent (x : (Int × List (Int))) : Option (Bool × List (Int)) :=
  ((F_slices_Index_int_lent (x.1, x.2))).bind fun r8 =>
  some ((decide (r8.1 ≥ (0 : Int))), r8.2)
noncomputable def cx_slices_Contains_int_lent : Ctx := { tb := mkTb T2.tbl, fx := [(67, [2000000], Spec.shp si_slices_Index_int_lent so_slices_Index_int_lent F_slices_Index_int_lent)], sum := [], nt := 9, pin := 1, nr := true, ys := [] }
theorem F_slices_Contains_int_lent_ok : Sound Try.prog 43 (Spec.shp si_slices_Contains_int_lent so_slices_Contains_int_lent F_slices_Contains_int_lent) :=
  Sound.shp (C := cx_slices_Contains_int_lent) (fn := Try.f43) (by kernel_rfl) (c := bodyOf Try.f43) (by kernel_rfl) (by decide) (ctxOK mixed tbl_ok rfl ⟨F_slices_Index_int_lent_ok, trivial⟩ trivial) (SumOK.of trivial) (by kernel_rfl) si_slices_Contains_int_lent so_slices_Contains_int_lent rfl (by decide) (by decide) rfl (by decide) rfl F_slices_Contains_int_lent (fun x => by kernel_rfl)
abbrev sh_prog_Reach_9 : Shape := { sl := [(1, (.ptr 0 [])), (4, (.sl 1)), (5, (.hole (.int .i64))), (25, (.hole (.slice (.pair (.int .i64) (.pair (.int .i64) (.int .i64)))))), (26, (.hole (.int .i64))), (27, (.hole (.int .i64)))], bl := [.var (.hole (.pair (.slice (.int .i64)) (.pair (.int .i64) (.pair (.int .i64) (.pair (.int .i64) (.pair (.slice (.pair (.slice (.pair .bool (.int .i64))) .bool)) (.slice (.slice (.pair (.int .i64) (.pair (.int .i64) (.int .i64))))))))))), .row (.int .i64)], ts := [(.int .i64), (.slice (.pair (.int .i64) (.pair (.int .i64) (.int .i64)))), (.int .i64), (.int .i64), (.pair (.slice (.int .i64)) (.pair (.int .i64) (.pair (.int .i64) (.pair (.int .i64) (.pair (.slice (.pair (.slice (.pair .bool (.int .i64))) .bool)) (.slice (.slice (.pair (.int .i64) (.pair (.int .i64) (.int .i64)))))))))), (.slice (.int .i64))], pin := 0 }
abbrev es_prog_Reach_9 : List (ETag × Shape) := [(.exit 2, { sl := [(1, (.ptr 0 [])), (4, (.sl 1)), (5, (.hole (.int .i64)))], bl := [.var (.hole (.pair (.slice (.int .i64)) (.pair (.int .i64) (.pair (.int .i64) (.pair (.int .i64) (.pair (.slice (.pair (.slice (.pair .bool (.int .i64))) .bool)) (.slice (.slice (.pair (.int .i64) (.pair (.int .i64) (.int .i64))))))))))), .row (.int .i64)], ts := [(.int .i64), (.pair (.slice (.int .i64)) (.pair (.int .i64) (.pair (.int .i64) (.pair (.int .i64) (.pair (.slice (.pair (.slice (.pair .bool (.int .i64))) .bool)) (.slice (.slice (.pair (.int .i64) (.pair (.int .i64) (.int .i64)))))))))), (.slice (.int .i64))], pin := 0 })]
noncomputable def L_prog_Reach_9 (x : (Int × List ((Int × (Int × Int))) × Int × Int × (List (Int) × (Int × (Int × (Int × (List ((List ((Bool × Int)) × Bool)) × List (List ((Int × (Int × Int))))))))) × List (Int))) : Option ((Int × List ((Int × (Int × Int))) × Int × Int × (List (Int) × (Int × (Int × (Int × (List ((List ((Bool × Int)) × Bool)) × List (List ((Int × (Int × Int))))))))) × List (Int)) ⊕ ((Int × (List (Int) × (Int × (Int × (Int × (List ((List ((Bool × Int)) × Bool)) × List (List ((Int × (Int × Int))))))))) × List (Int)))) :=
  bif (decide (x.2.2.2.1 < x.2.2.1)) then
    bif (Go.Proofs.Ytagjaiammndjoaa.VX.inb x.2.2.2.1 (List.length x.2.1)) then
      bif ((Go.Proofs.Ytagjaiammndjoaa.VX.getAt ((0 : Int), ((0 : Int), (0 : Int))) x.2.1 (Go.Proofs.Ytagjaiammndjoaa.VX.toN x.2.2.2.1)).1 == (9 : Int)) then
        ((F_slices_Contains_int_lent ((Go.Proofs.Ytagjaiammndjoaa.VX.getAt ((0 : Int), ((0 : Int), (0 : Int))) x.2.1 (Go.Proofs.Ytagjaiammndjoaa.VX.toN x.2.2.2.1)).2.1, x.2.2.2.2.2))).bind fun r7 =>
        bif (Bool.not r7.1) then
          bif (Go.Proofs.Ytagjaiammndjoaa.VX.fits ((List.length r7.2) + (List.length ((Go.Proofs.Ytagjaiammndjoaa.VX.getAt ((0 : Int), ((0 : Int), (0 : Int))) x.2.1 (Go.Proofs.Ytagjaiammndjoaa.VX.toN x.2.2.2.1)).2.1 :: ([] : List Int))))) then
            some (.inl (x.1, (x.2.1, (x.2.2.1, ((Go.IntKind.wrap Go.IntKind.i64 (x.2.2.2.1 + (1 : Int))), (x.2.2.2.2.1, (r7.2 ++ ((Go.Proofs.Ytagjaiammndjoaa.VX.getAt ((0 : Int), ((0 : Int), (0 : Int))) x.2.1 (Go.Proofs.Ytagjaiammndjoaa.VX.toN x.2.2.2.1)).2.1 :: ([] : List Int)))))))))
          else
            none
        else
          some (.inl (x.1, (x.2.1, (x.2.2.1, ((Go.IntKind.wrap Go.IntKind.i64 (x.2.2.2.1 + (1 : Int))), (x.2.2.2.2.1, r7.2))))))
      else
        some (.inl (x.1, (x.2.1, (x.2.2.1, ((Go.IntKind.wrap Go.IntKind.i64 (x.2.2.2.1 + (1 : Int))), (x.2.2.2.2.1, x.2.2.2.2.2))))))
    else
      none
  else
    some (.inr (x.1, (x.2.2.2.2.1, x.2.2.2.2.2)))
noncomputable def cx_prog_Reach_9 : Ctx := { tb := mkTb T2.tbl, fx := [(11, [], Spec.shp si_prog_Right so_prog_Right F_prog_Right), (43, [2000000], Spec.shp si_slices_Contains_int_lent so_slices_Contains_int_lent F_slices_Contains_int_lent)], sum := [], nt := 50, pin := 0, nr := true, ys := [] }
theorem L_prog_Reach_9_ok : CSound Try.prog ⟨50, 0, true⟩ (.loop (loopOf 9 Try.f24)) (pieceSpec sh_prog_Reach_9 es_prog_Reach_9 (loop L_prog_Reach_9)) :=
  loop_sound (C := cx_prog_Reach_9) (ctxOK mixed tbl_ok rfl ⟨F_prog_Right_ok, F_slices_Contains_int_lent_ok, trivial⟩ trivial) (SumOK.of trivial) sh_prog_Reach_9 es_prog_Reach_9 rfl rfl L_prog_Reach_9 (fun x => by kernel_rfl)
abbrev sh_prog_Reach_6 : Shape := { sl := [(1, (.ptr 0 [])), (4, (.sl 1)), (5, (.hole (.int .i64)))], bl := [.var (.hole (.pair (.slice (.int .i64)) (.pair (.int .i64) (.pair (.int .i64) (.pair (.int .i64) (.pair (.slice (.pair (.slice (.pair .bool (.int .i64))) .bool)) (.slice (.slice (.pair (.int .i64) (.pair (.int .i64) (.int .i64))))))))))), .row (.int .i64)], ts := [(.int .i64), (.pair (.slice (.int .i64)) (.pair (.int .i64) (.pair (.int .i64) (.pair (.int .i64) (.pair (.slice (.pair (.slice (.pair .bool (.int .i64))) .bool)) (.slice (.slice (.pair (.int .i64) (.pair (.int .i64) (.int .i64)))))))))), (.slice (.int .i64))], pin := 0 }
abbrev es_prog_Reach_6 : List (ETag × Shape) := [(.exit 0, { sl := [(4, (.sl 0))], bl := [.row (.int .i64)], ts := [(.slice (.int .i64))], pin := 0 })]
noncomputable def L_prog_Reach_6 (x : (Int × (List (Int) × (Int × (Int × (Int × (List ((List ((Bool × Int)) × Bool)) × List (List ((Int × (Int × Int))))))))) × List (Int))) : Option ((Int × (List (Int) × (Int × (Int × (Int × (List ((List ((Bool × Int)) × Bool)) × List (List ((Int × (Int × Int))))))))) × List (Int)) ⊕ ((List (Int)))) :=
  bif (decide (x.1 < (((List.length x.2.2) : Nat) : Int))) then
    bif (Go.Proofs.Ytagjaiammndjoaa.VX.inb x.1 (List.length x.2.2)) then
      bif (Go.Proofs.Ytagjaiammndjoaa.VX.inb (Go.Proofs.Ytagjaiammndjoaa.VX.getAt (0 : Int) x.2.2 (Go.Proofs.Ytagjaiammndjoaa.VX.toN x.1)) (List.length x.2.1.2.2.2.2.2)) then
        ((loop L_prog_Reach_9 (x.1, ((Go.Proofs.Ytagjaiammndjoaa.VX.getAt ([] : List (Int × (Int × Int))) x.2.1.2.2.2.2.2 (Go.Proofs.Ytagjaiammndjoaa.VX.toN (Go.Proofs.Ytagjaiammndjoaa.VX.getAt (0 : Int) x.2.2 (Go.Proofs.Ytagjaiammndjoaa.VX.toN x.1)))), ((((List.length (Go.Proofs.Ytagjaiammndjoaa.VX.getAt ([] : List (Int × (Int × Int))) x.2.1.2.2.2.2.2 (Go.Proofs.Ytagjaiammndjoaa.VX.toN (Go.Proofs.Ytagjaiammndjoaa.VX.getAt (0 : Int) x.2.2 (Go.Proofs.Ytagjaiammndjoaa.VX.toN x.1))))) : Nat) : Int), ((0 : Int), (x.2.1, x.2.2))))))).bind fun r6 =>
        some (.inl ((Go.IntKind.wrap Go.IntKind.i64 (r6.1 + (1 : Int))), (r6.2.1, r6.2.2)))
      else
        none
    else
      none
  else
    some (.inr x.2.2)
noncomputable def cx_prog_Reach_6 : Ctx := { tb := mkTb T2.tbl, fx := [(11, [], Spec.shp si_prog_Right so_prog_Right F_prog_Right), (43, [2000000], Spec.shp si_slices_Contains_int_lent so_slices_Contains_int_lent F_slices_Contains_int_lent)], sum := [(0, 9, pieceSpec sh_prog_Reach_9 es_prog_Reach_9 (loop L_prog_Reach_9))], nt := 50, pin := 0, nr := true, ys := [] }
theorem L_prog_Reach_6_ok : CSound Try.prog ⟨50, 0, true⟩ (.loop (loopOf 6 Try.f24)) (pieceSpec sh_prog_Reach_6 es_prog_Reach_6 (loop L_prog_Reach_6)) :=
  loop_sound (C := cx_prog_Reach_6) (ctxOK mixed tbl_ok rfl ⟨F_prog_Right_ok, F_slices_Contains_int_lent_ok, trivial⟩ trivial) (SumOK.of ⟨(pieces_one (d := .loop (loopOf 9 Try.f24)) (by kernel_rfl) L_prog_Reach_9_ok), trivial⟩) sh_prog_Reach_6 es_prog_Reach_6 rfl rfl L_prog_Reach_6 (fun x => by kernel_rfl)
abbrev si_prog_Reach : Shape := { sl := [(0, (.hole (.pair (.slice (.int .i64)) (.pair (.int .i64) (.pair (.int .i64) (.pair (.int .i64) (.pair (.slice (.pair (.slice (.pair .bool (.int .i64))) .bool)) (.slice (.slice (.pair (.int .i64) (.pair (.int .i64) (.int .i64))))))))))))], bl := [], ts := [(.pair (.slice (.int .i64)) (.pair (.int .i64) (.pair (.int .i64) (.pair (.int .i64) (.pair (.slice (.pair (.slice (.pair .bool (.int .i64))) .bool)) (.slice (.slice (.pair (.int .i64) (.pair (.int .i64) (.int .i64))))))))))], pin := 0 }
abbrev so_prog_Reach : Shape := { sl := [(0, (.hole (.slice (.int .i64)))), (1, (.hole (.int .i64)))], bl := [], ts := [(.slice (.int .i64)), (.int .i64)], pin := 0 }
noncomputable def F_prog_Reach (x : ((List (Int) × (Int × (Int × (Int × (List ((List ((Bool × Int)) × Bool)) × List (List ((Int × (Int × Int))))))))))) : Option (List (Int) × Int) :=
  ((F_prog_Right x)).bind fun r4 =>
  bif (Bool.not r4) then
    some (([] : List Int), (1 : Int))
  else
    ((loop L_prog_Reach_6 ((0 : Int), (x, ((0 : Int) :: ([] : List Int)))))).bind fun r5 =>
    bif (Go.Proofs.Ytagjaiammndjoaa.VX.fits (List.length r5)) then
      some ((Go.Proofs.Ytagjaiammndjoaa.VX.sortRow r5 (0 : Nat) (List.length r5)), (0 : Int))
    else
      none
noncomputable def cx_prog_Reach : Ctx := { tb := mkTb T2.tbl, fx := [(11, [], Spec.shp si_prog_Right so_prog_Right F_prog_Right), (43, [2000000], Spec.shp si_slices_Contains_int_lent so_slices_Contains_int_lent F_slices_Contains_int_lent), (44, [2000000], sortSpec)], sum := [(0, 9, pieceSpec sh_prog_Reach_9 es_prog_Reach_9 (loop L_prog_Reach_9)), (0, 6, pieceSpec sh_prog_Reach_6 es_prog_Reach_6 (loop L_prog_Reach_6))], nt := 50, pin := 0, nr := true, ys := [] }
theorem F_prog_Reach_ok : Sound Try.prog 24 (Spec.shp si_prog_Reach so_prog_Reach F_prog_Reach) :=
  Sound.shp (C := cx_prog_Reach) (fn := Try.f24) (by kernel_rfl) (c := bodyOf Try.f24) (by kernel_rfl) (by decide) (ctxOK mixed tbl_ok rfl ⟨F_prog_Right_ok, F_slices_Contains_int_lent_ok, F_slices_Sort_int_ok, trivial⟩ trivial) (SumOK.of ⟨(pieces_one (d := .loop (loopOf 9 Try.f24)) (by kernel_rfl) L_prog_Reach_9_ok), (pieces_one (d := .loop (loopOf 6 Try.f24)) (by kernel_rfl) L_prog_Reach_6_ok), trivial⟩) (by kernel_rfl) si_prog_Reach so_prog_Reach rfl (by decide) (by decide) rfl (by decide) rfl F_prog_Reach (fun x => by kernel_rfl)
abbrev si_plaitref06_sizes : Shape := { sl := [(0, (.hole (.pair (.slice (.int .i64)) (.pair (.int .i64) (.pair (.int .i64) (.pair (.int .i64) (.pair (.slice (.pair (.slice (.pair .bool (.int .i64))) .bool)) (.slice (.slice (.pair (.int .i64) (.pair (.int .i64) (.int .i64))))))))))))], bl := [], ts := [(.pair (.slice (.int .i64)) (.pair (.int .i64) (.pair (.int .i64) (.pair (.int .i64) (.pair (.slice (.pair (.slice (.pair .bool (.int .i64))) .bool)) (.slice (.slice (.pair (.int .i64) (.pair (.int .i64) (.int .i64))))))))))], pin := 0 }
abbrev so_plaitref06_sizes : Shape := { sl := [(0, (.hole .bool))], bl := [], ts := [.bool], pin := 0 }
noncomputable def F_plaitref06_sizes (x : ((List (Int) × (Int × (Int × (Int × (List ((List ((Bool × Int)) × Bool)) × List (List ((Int × (Int × Int))))))))))) : Option (Bool) :=
  bif (decide ((((List.length x.1) : Nat) : Int) > (4 : Int))) then
    some true
  else
    bif (decide (x.2.1 < (0 : Int))) then
      some true
    else
      bif (decide (x.2.1 > (2 : Int))) then
        some true
      else
        bif (decide (x.2.2.1 < (0 : Int))) then
          some true
        else
          bif (decide (x.2.2.1 > (2 : Int))) then
            some true
          else
            bif (decide (x.2.2.2.1 < (0 : Int))) then
              some true
            else
              bif (decide (x.2.2.2.1 > (4 : Int))) then
                some true
              else
                bif (decide ((((List.length x.2.2.2.2.1) : Nat) : Int) > (4 : Int))) then
                  some true
                else
                  bif (decide ((((List.length x.2.2.2.2.2) : Nat) : Int) < (1 : Int))) then
                    some true
                  else
                    some (decide ((((List.length x.2.2.2.2.2) : Nat) : Int) > (6 : Int)))
noncomputable def cx_plaitref06_sizes : Ctx := { tb := mkTb T2.tbl, fx := [], sum := [], nt := 55, pin := 0, nr := true, ys := [] }
theorem F_plaitref06_sizes_ok : Sound Try.prog 70 (Spec.shp si_plaitref06_sizes so_plaitref06_sizes F_plaitref06_sizes) :=
  Sound.shp (C := cx_plaitref06_sizes) (fn := Try.f70) (by kernel_rfl) (c := bodyOf Try.f70) (by kernel_rfl) (by decide) (ctxOK mixed tbl_ok rfl trivial trivial) (SumOK.of trivial) (by kernel_rfl) si_plaitref06_sizes so_plaitref06_sizes rfl (by decide) (by decide) rfl (by decide) rfl F_plaitref06_sizes (fun x => by kernel_rfl)
abbrev sh_plaitref06_tables_5 : Shape := { sl := [(1, (.ptr 0 [])), (13, (.hole (.slice (.int .i64)))), (14, (.hole (.int .i64))), (15, (.hole (.int .i64)))], bl := [.var (.hole (.pair (.slice (.int .i64)) (.pair (.int .i64) (.pair (.int .i64) (.pair (.int .i64) (.pair (.slice (.pair (.slice (.pair .bool (.int .i64))) .bool)) (.slice (.slice (.pair (.int .i64) (.pair (.int .i64) (.int .i64)))))))))))], ts := [(.slice (.int .i64)), (.int .i64), (.int .i64), (.pair (.slice (.int .i64)) (.pair (.int .i64) (.pair (.int .i64) (.pair (.int .i64) (.pair (.slice (.pair (.slice (.pair .bool (.int .i64))) .bool)) (.slice (.slice (.pair (.int .i64) (.pair (.int .i64) (.int .i64))))))))))], pin := 0 }
abbrev es_plaitref06_tables_5 : List (ETag × Shape) := [(.ret, { sl := [(2, (.hole (.int .i64))), (3, (.hole (.int .i64)))], bl := [], ts := [(.int .i64), (.int .i64)], pin := 0 }), (.exit 0, { sl := [(1, (.ptr 0 []))], bl := [.var (.hole (.pair (.slice (.int .i64)) (.pair (.int .i64) (.pair (.int .i64) (.pair (.int .i64) (.pair (.slice (.pair (.slice (.pair .bool (.int .i64))) .bool)) (.slice (.slice (.pair (.int .i64) (.pair (.int .i64) (.int .i64)))))))))))], ts := [(.pair (.slice (.int .i64)) (.pair (.int .i64) (.pair (.int .i64) (.pair (.int .i64) (.pair (.slice (.pair (.slice (.pair .bool (.int .i64))) .bool)) (.slice (.slice (.pair (.int .i64) (.pair (.int .i64) (.int .i64))))))))))], pin := 0 })]
noncomputable def L_plaitref06_tables_5 (x : (List (Int) × Int × Int × (List (Int) × (Int × (Int × (Int × (List ((List ((Bool × Int)) × Bool)) × List (List ((Int × (Int × Int))))))))))) : Option ((List (Int) × Int × Int × (List (Int) × (Int × (Int × (Int × (List ((List ((Bool × Int)) × Bool)) × List (List ((Int × (Int × Int)))))))))) ⊕ ((Int × Int) ⊕ ((List (Int) × (Int × (Int × (Int × (List ((List ((Bool × Int)) × Bool)) × List (List ((Int × (Int × Int)))))))))))) :=
  bif (decide (x.2.2.1 < x.2.1)) then
    bif (Go.Proofs.Ytagjaiammndjoaa.VX.inb x.2.2.1 (List.length x.1)) then
      bif (decide ((Go.Proofs.Ytagjaiammndjoaa.VX.getAt (0 : Int) x.1 (Go.Proofs.Ytagjaiammndjoaa.VX.toN x.2.2.1)) < (Int.negSucc 0))) then
        some (.inr (.inl ((Int.negSucc 0), (3 : Int))))
      else
        bif (decide ((Go.Proofs.Ytagjaiammndjoaa.VX.getAt (0 : Int) x.1 (Go.Proofs.Ytagjaiammndjoaa.VX.toN x.2.2.1)) > (3 : Int))) then
          some (.inr (.inl ((Int.negSucc 0), (3 : Int))))
        else
          some (.inl (x.1, (x.2.1, ((Go.IntKind.wrap Go.IntKind.i64 (x.2.2.1 + (1 : Int))), x.2.2.2))))
    else
      none
  else
    some (.inr (.inr x.2.2.2))
noncomputable def cx_plaitref06_tables_5 : Ctx := { tb := mkTb T2.tbl, fx := [(70, [], Spec.shp si_plaitref06_sizes so_plaitref06_sizes F_plaitref06_sizes)], sum := [], nt := 60, pin := 0, nr := true, ys := [] }
theorem L_plaitref06_tables_5_ok : CSound Try.prog ⟨60, 0, true⟩ (.loop (loopOf 5 Try.f45)) (pieceSpec sh_plaitref06_tables_5 es_plaitref06_tables_5 (loop L_plaitref06_tables_5)) :=
  loop_sound (C := cx_plaitref06_tables_5) (ctxOK mixed tbl_ok rfl ⟨F_plaitref06_sizes_ok, trivial⟩ trivial) (SumOK.of trivial) sh_plaitref06_tables_5 es_plaitref06_tables_5 rfl rfl L_plaitref06_tables_5 (fun x => by kernel_rfl)
abbrev sh_plaitref06_tables_16 : Shape := { sl := [(1, (.ptr 0 [])), (6, (.hole (.int .i64))), (27, (.hole (.slice (.pair (.slice (.pair .bool (.int .i64))) .bool)))), (28, (.hole (.int .i64))), (29, (.hole (.int .i64))), (40, (.hole (.slice (.pair .bool (.int .i64))))), (41, (.hole (.int .i64))), (42, (.hole (.int .i64)))], bl := [.var (.hole (.pair (.slice (.int .i64)) (.pair (.int .i64) (.pair (.int .i64) (.pair (.int .i64) (.pair (.slice (.pair (.slice (.pair .bool (.int .i64))) .bool)) (.slice (.slice (.pair (.int .i64) (.pair (.int .i64) (.int .i64)))))))))))], ts := [(.int .i64), (.slice (.pair (.slice (.pair .bool (.int .i64))) .bool)), (.int .i64), (.int .i64), (.slice (.pair .bool (.int .i64))), (.int .i64), (.int .i64), (.pair (.slice (.int .i64)) (.pair (.int .i64) (.pair (.int .i64) (.pair (.int .i64) (.pair (.slice (.pair (.slice (.pair .bool (.int .i64))) .bool)) (.slice (.slice (.pair (.int .i64) (.pair (.int .i64) (.int .i64))))))))))], pin := 0 }
abbrev es_plaitref06_tables_16 : List (ETag × Shape) := [(.ret, { sl := [(2, (.hole (.int .i64))), (3, (.hole (.int .i64)))], bl := [], ts := [(.int .i64), (.int .i64)], pin := 0 }), (.exit 4, { sl := [(1, (.ptr 0 [])), (27, (.hole (.slice (.pair (.slice (.pair .bool (.int .i64))) .bool)))), (28, (.hole (.int .i64))), (29, (.hole (.int .i64)))], bl := [.var (.hole (.pair (.slice (.int .i64)) (.pair (.int .i64) (.pair (.int .i64) (.pair (.int .i64) (.pair (.slice (.pair (.slice (.pair .bool (.int .i64))) .bool)) (.slice (.slice (.pair (.int .i64) (.pair (.int .i64) (.int .i64)))))))))))], ts := [(.slice (.pair (.slice (.pair .bool (.int .i64))) .bool)), (.int .i64), (.int .i64), (.pair (.slice (.int .i64)) (.pair (.int .i64) (.pair (.int .i64) (.pair (.int .i64) (.pair (.slice (.pair (.slice (.pair .bool (.int .i64))) .bool)) (.slice (.slice (.pair (.int .i64) (.pair (.int .i64) (.int .i64))))))))))], pin := 0 })]
noncomputable def L_plaitref06_tables_16 (x : (Int × List ((List ((Bool × Int)) × Bool)) × Int × Int × List ((Bool × Int)) × Int × Int × (List (Int) × (Int × (Int × (Int × (List ((List ((Bool × Int)) × Bool)) × List (List ((Int × (Int × Int))))))))))) : Option ((Int × List ((List ((Bool × Int)) × Bool)) × Int × Int × List ((Bool × Int)) × Int × Int × (List (Int) × (Int × (Int × (Int × (List ((List ((Bool × Int)) × Bool)) × List (List ((Int × (Int × Int)))))))))) ⊕ ((Int × Int) ⊕ (List ((List ((Bool × Int)) × Bool)) × Int × Int × (List (Int) × (Int × (Int × (Int × (List ((List ((Bool × Int)) × Bool)) × List (List ((Int × (Int × Int)))))))))))) :=
  bif (decide (x.2.2.2.2.2.2.1 < x.2.2.2.2.2.1)) then
    bif (Go.Proofs.Ytagjaiammndjoaa.VX.inb x.2.2.2.2.2.2.1 (List.length x.2.2.2.2.1)) then
      bif (decide ((Go.Proofs.Ytagjaiammndjoaa.VX.getAt (false, (0 : Int)) x.2.2.2.2.1 (Go.Proofs.Ytagjaiammndjoaa.VX.toN x.2.2.2.2.2.2.1)).2 < (0 : Int))) then
        some (.inr (.inl (x.1, (3 : Int))))
      else
        bif (decide ((Go.Proofs.Ytagjaiammndjoaa.VX.getAt (false, (0 : Int)) x.2.2.2.2.1 (Go.Proofs.Ytagjaiammndjoaa.VX.toN x.2.2.2.2.2.2.1)).2 ≥ (((List.length x.2.2.2.2.2.2.2.1) : Nat) : Int))) then
          some (.inr (.inl (x.1, (3 : Int))))
        else
          some (.inl (x.1, (x.2.1, (x.2.2.1, (x.2.2.2.1, (x.2.2.2.2.1, (x.2.2.2.2.2.1, ((Go.IntKind.wrap Go.IntKind.i64 (x.2.2.2.2.2.2.1 + (1 : Int))), x.2.2.2.2.2.2.2))))))))
    else
      none
  else
    some (.inr (.inr (x.2.1, (x.2.2.1, (x.2.2.2.1, x.2.2.2.2.2.2.2)))))
noncomputable def cx_plaitref06_tables_16 : Ctx := { tb := mkTb T2.tbl, fx := [(70, [], Spec.shp si_plaitref06_sizes so_plaitref06_sizes F_plaitref06_sizes)], sum := [(0, 5, pieceSpec sh_plaitref06_tables_5 es_plaitref06_tables_5 (loop L_plaitref06_tables_5))], nt := 60, pin := 0, nr := true, ys := [] }
theorem L_plaitref06_tables_16_ok : CSound Try.prog ⟨60, 0, true⟩ (.loop (loopOf 16 Try.f45)) (pieceSpec sh_plaitref06_tables_16 es_plaitref06_tables_16 (loop L_plaitref06_tables_16)) :=
  loop_sound (C := cx_plaitref06_tables_16) (ctxOK mixed tbl_ok rfl ⟨F_plaitref06_sizes_ok, trivial⟩ trivial) (SumOK.of ⟨(pieces_none (by kernel_rfl)), trivial⟩) sh_plaitref06_tables_16 es_plaitref06_tables_16 rfl rfl L_plaitref06_tables_16 (fun x => by kernel_rfl)
abbrev sh_plaitref06_tables_11 : Shape := { sl := [(1, (.ptr 0 [])), (27, (.hole (.slice (.pair (.slice (.pair .bool (.int .i64))) .bool)))), (28, (.hole (.int .i64))), (29, (.hole (.int .i64)))], bl := [.var (.hole (.pair (.slice (.int .i64)) (.pair (.int .i64) (.pair (.int .i64) (.pair (.int .i64) (.pair (.slice (.pair (.slice (.pair .bool (.int .i64))) .bool)) (.slice (.slice (.pair (.int .i64) (.pair (.int .i64) (.int .i64)))))))))))], ts := [(.slice (.pair (.slice (.pair .bool (.int .i64))) .bool)), (.int .i64), (.int .i64), (.pair (.slice (.int .i64)) (.pair (.int .i64) (.pair (.int .i64) (.pair (.int .i64) (.pair (.slice (.pair (.slice (.pair .bool (.int .i64))) .bool)) (.slice (.slice (.pair (.int .i64) (.pair (.int .i64) (.int .i64))))))))))], pin := 0 }
abbrev es_plaitref06_tables_11 : List (ETag × Shape) := [(.ret, { sl := [(2, (.hole (.int .i64))), (3, (.hole (.int .i64)))], bl := [], ts := [(.int .i64), (.int .i64)], pin := 0 }), (.exit 2, { sl := [], bl := [], ts := [], pin := 0 })]
noncomputable def L_plaitref06_tables_11 (x : (List ((List ((Bool × Int)) × Bool)) × Int × Int × (List (Int) × (Int × (Int × (Int × (List ((List ((Bool × Int)) × Bool)) × List (List ((Int × (Int × Int))))))))))) : Option ((List ((List ((Bool × Int)) × Bool)) × Int × Int × (List (Int) × (Int × (Int × (Int × (List ((List ((Bool × Int)) × Bool)) × List (List ((Int × (Int × Int)))))))))) ⊕ ((Int × Int) ⊕ Unit)) :=
  bif (decide (x.2.2.1 < x.2.1)) then
    bif (Go.Proofs.Ytagjaiammndjoaa.VX.inb x.2.2.1 (List.length x.1)) then
      bif (decide ((((List.length (Go.Proofs.Ytagjaiammndjoaa.VX.getAt (([] : List (Bool × Int)), false) x.1 (Go.Proofs.Ytagjaiammndjoaa.VX.toN x.2.2.1)).1) : Nat) : Int) > (4 : Int))) then
        some (.inr (.inl (x.2.2.1, (2 : Int))))
      else
        ((loop L_plaitref06_tables_16 (x.2.2.1, (x.1, (x.2.1, (x.2.2.1, ((Go.Proofs.Ytagjaiammndjoaa.VX.getAt (([] : List (Bool × Int)), false) x.1 (Go.Proofs.Ytagjaiammndjoaa.VX.toN x.2.2.1)).1, ((((List.length (Go.Proofs.Ytagjaiammndjoaa.VX.getAt (([] : List (Bool × Int)), false) x.1 (Go.Proofs.Ytagjaiammndjoaa.VX.toN x.2.2.1)).1) : Nat) : Int), ((0 : Int), x.2.2.2))))))))).bind fun r11 =>
        match r11 with
        | .inl y12 =>
          some (.inr (.inl (y12.1, y12.2)))
        | .inr y12 =>
          some (.inl (y12.1, (y12.2.1, ((Go.IntKind.wrap Go.IntKind.i64 (y12.2.2.1 + (1 : Int))), y12.2.2.2))))
    else
      none
  else
    some (.inr (.inr ()))
noncomputable def cx_plaitref06_tables_11 : Ctx := { tb := mkTb T2.tbl, fx := [(70, [], Spec.shp si_plaitref06_sizes so_plaitref06_sizes F_plaitref06_sizes)], sum := [(0, 5, pieceSpec sh_plaitref06_tables_5 es_plaitref06_tables_5 (loop L_plaitref06_tables_5)), (0, 16, pieceSpec sh_plaitref06_tables_16 es_plaitref06_tables_16 (loop L_plaitref06_tables_16))], nt := 60, pin := 0, nr := true, ys := [] }
theorem L_plaitref06_tables_11_ok : CSound Try.prog ⟨60, 0, true⟩ (.loop (loopOf 11 Try.f45)) (pieceSpec sh_plaitref06_tables_11 es_plaitref06_tables_11 (loop L_plaitref06_tables_11)) :=
  loop_sound (C := cx_plaitref06_tables_11) (ctxOK mixed tbl_ok rfl ⟨F_plaitref06_sizes_ok, trivial⟩ trivial) (SumOK.of ⟨(pieces_none (by kernel_rfl)), (pieces_one (d := .loop (loopOf 16 Try.f45)) (by kernel_rfl) L_plaitref06_tables_16_ok), trivial⟩) sh_plaitref06_tables_11 es_plaitref06_tables_11 rfl rfl L_plaitref06_tables_11 (fun x => by kernel_rfl)
abbrev si_plaitref06_tables : Shape := { sl := [(0, (.hole (.pair (.slice (.int .i64)) (.pair (.int .i64) (.pair (.int .i64) (.pair (.int .i64) (.pair (.slice (.pair (.slice (.pair .bool (.int .i64))) .bool)) (.slice (.slice (.pair (.int .i64) (.pair (.int .i64) (.int .i64))))))))))))], bl := [], ts := [(.pair (.slice (.int .i64)) (.pair (.int .i64) (.pair (.int .i64) (.pair (.int .i64) (.pair (.slice (.pair (.slice (.pair .bool (.int .i64))) .bool)) (.slice (.slice (.pair (.int .i64) (.pair (.int .i64) (.int .i64))))))))))], pin := 0 }
abbrev so_plaitref06_tables : Shape := { sl := [(0, (.hole (.int .i64))), (1, (.hole (.int .i64)))], bl := [], ts := [(.int .i64), (.int .i64)], pin := 0 }
noncomputable def F_plaitref06_tables (x : ((List (Int) × (Int × (Int × (Int × (List ((List ((Bool × Int)) × Bool)) × List (List ((Int × (Int × Int))))))))))) : Option (Int × Int) :=
  ((F_plaitref06_sizes x)).bind fun r7 =>
  bif r7 then
    some ((Int.negSucc 0), (2 : Int))
  else
    ((loop L_plaitref06_tables_5 (x.1, ((((List.length x.1) : Nat) : Int), ((0 : Int), x))))).bind fun r8 =>
    match r8 with
    | .inl y9 =>
      some (y9.1, y9.2)
    | .inr y9 =>
      ((loop L_plaitref06_tables_11 (y9.2.2.2.2.1, ((((List.length y9.2.2.2.2.1) : Nat) : Int), ((0 : Int), y9))))).bind fun r10 =>
      match r10 with
      | .inl y11 =>
        some (y11.1, y11.2)
      | .inr y11 =>
        some ((Int.negSucc 0), (0 : Int))
noncomputable def cx_plaitref06_tables : Ctx := { tb := mkTb T2.tbl, fx := [(70, [], Spec.shp si_plaitref06_sizes so_plaitref06_sizes F_plaitref06_sizes)], sum := [(0, 5, pieceSpec sh_plaitref06_tables_5 es_plaitref06_tables_5 (loop L_plaitref06_tables_5)), (0, 16, pieceSpec sh_plaitref06_tables_16 es_plaitref06_tables_16 (loop L_plaitref06_tables_16)), (0, 11, pieceSpec sh_plaitref06_tables_11 es_plaitref06_tables_11 (loop L_plaitref06_tables_11))], nt := 60, pin := 0, nr := true, ys := [] }
theorem F_plaitref06_tables_ok : Sound Try.prog 45 (Spec.shp si_plaitref06_tables so_plaitref06_tables F_plaitref06_tables) :=
  Sound.shp (C := cx_plaitref06_tables) (fn := Try.f45) (by kernel_rfl) (c := bodyOf Try.f45) (by kernel_rfl) (by decide) (ctxOK mixed tbl_ok rfl ⟨F_plaitref06_sizes_ok, trivial⟩ trivial) (SumOK.of ⟨(pieces_one (d := .loop (loopOf 5 Try.f45)) (by kernel_rfl) L_plaitref06_tables_5_ok), (pieces_one (d := .loop (loopOf 16 Try.f45)) (by kernel_rfl) L_plaitref06_tables_16_ok), (pieces_one (d := .loop (loopOf 11 Try.f45)) (by kernel_rfl) L_plaitref06_tables_11_ok), trivial⟩) (by kernel_rfl) si_plaitref06_tables so_plaitref06_tables rfl (by decide) (by decide) rfl (by decide) rfl F_plaitref06_tables (fun x => by kernel_rfl)
abbrev si_plaitref06_most : Shape := { sl := [(0, (.hole (.pair (.slice (.int .i64)) (.pair (.int .i64) (.pair (.int .i64) (.pair (.int .i64) (.pair (.slice (.pair (.slice (.pair .bool (.int .i64))) .bool)) (.slice (.slice (.pair (.int .i64) (.pair (.int .i64) (.int .i64)))))))))))), (1, (.hole (.int .i64))), (2, (.hole (.slice (.pair (.int .i64) (.pair (.int .i64) (.int .i64))))))], bl := [], ts := [(.pair (.slice (.int .i64)) (.pair (.int .i64) (.pair (.int .i64) (.pair (.int .i64) (.pair (.slice (.pair (.slice (.pair .bool (.int .i64))) .bool)) (.slice (.slice (.pair (.int .i64) (.pair (.int .i64) (.int .i64)))))))))), (.int .i64), (.slice (.pair (.int .i64) (.pair (.int .i64) (.int .i64))))], pin := 0 }
abbrev so_plaitref06_most : Shape := { sl := [(0, (.hole (.int .i64)))], bl := [], ts := [(.int .i64)], pin := 0 }
noncomputable def F_plaitref06_most (x : ((List (Int) × (Int × (Int × (Int × (List ((List ((Bool × Int)) × Bool)) × List (List ((Int × (Int × Int))))))))) × Int × List ((Int × (Int × Int))))) : Option (Int) :=
  bif (decide (x.2.1 ≥ (1 : Int))) then
    bif (decide (x.2.1 ≤ (3 : Int))) then
      some (((List.length x.1.1) : Nat) : Int)
    else
      bif (x.2.1 == (4 : Int)) then
        some (((List.length x.1.2.2.2.2.1) : Nat) : Int)
      else
        bif (x.2.1 == (5 : Int)) then
          some x.1.2.1
        else
          bif (x.2.1 == (6 : Int)) then
            some x.1.2.1
          else
            bif (x.2.1 == (7 : Int)) then
              some x.1.2.2.1
            else
              bif (x.2.1 == (8 : Int)) then
                some x.1.2.2.1
              else
                bif (x.2.1 == (9 : Int)) then
                  some (((List.length x.1.2.2.2.2.2) : Nat) : Int)
                else
                  bif (x.2.1 == (10 : Int)) then
                    some x.1.2.2.2.1
                  else
                    bif (x.2.1 == (11 : Int)) then
                      some x.1.2.2.2.1
                    else
                      bif (decide (x.2.1 ≥ (12 : Int))) then
                        some (Go.IntKind.wrap Go.IntKind.i64 ((((List.length x.2.2) : Nat) : Int) + (1 : Int)))
                      else
                        some (1 : Int)
  else
    bif (x.2.1 == (4 : Int)) then
      some (((List.length x.1.2.2.2.2.1) : Nat) : Int)
    else
      bif (x.2.1 == (5 : Int)) then
        some x.1.2.1
      else
        bif (x.2.1 == (6 : Int)) then
          some x.1.2.1
        else
          bif (x.2.1 == (7 : Int)) then
            some x.1.2.2.1
          else
            bif (x.2.1 == (8 : Int)) then
              some x.1.2.2.1
            else
              bif (x.2.1 == (9 : Int)) then
                some (((List.length x.1.2.2.2.2.2) : Nat) : Int)
              else
                bif (x.2.1 == (10 : Int)) then
                  some x.1.2.2.2.1
                else
                  bif (x.2.1 == (11 : Int)) then
                    some x.1.2.2.2.1
                  else
                    bif (decide (x.2.1 ≥ (12 : Int))) then
                      some (Go.IntKind.wrap Go.IntKind.i64 ((((List.length x.2.2) : Nat) : Int) + (1 : Int)))
                    else
                      some (1 : Int)
noncomputable def cx_plaitref06_most : Ctx := { tb := mkTb T2.tbl, fx := [], sum := [], nt := 55, pin := 0, nr := true, ys := [] }
theorem F_plaitref06_most_ok : Sound Try.prog 71 (Spec.shp si_plaitref06_most so_plaitref06_most F_plaitref06_most) :=
  Sound.shp (C := cx_plaitref06_most) (fn := Try.f71) (by kernel_rfl) (c := bodyOf Try.f71) (by kernel_rfl) (by decide) (ctxOK mixed tbl_ok rfl trivial trivial) (SumOK.of trivial) (by kernel_rfl) si_plaitref06_most so_plaitref06_most rfl (by decide) (by decide) rfl (by decide) rfl F_plaitref06_most (fun x => by kernel_rfl)
abbrev si_plaitref06_instr : Shape := { sl := [(0, (.hole (.pair (.slice (.int .i64)) (.pair (.int .i64) (.pair (.int .i64) (.pair (.int .i64) (.pair (.slice (.pair (.slice (.pair .bool (.int .i64))) .bool)) (.slice (.slice (.pair (.int .i64) (.pair (.int .i64) (.int .i64)))))))))))), (1, (.hole (.slice (.pair (.int .i64) (.pair (.int .i64) (.int .i64)))))), (2, (.hole (.pair (.int .i64) (.pair (.int .i64) (.int .i64)))))], bl := [], ts := [(.pair (.slice (.int .i64)) (.pair (.int .i64) (.pair (.int .i64) (.pair (.int .i64) (.pair (.slice (.pair (.slice (.pair .bool (.int .i64))) .bool)) (.slice (.slice (.pair (.int .i64) (.pair (.int .i64) (.int .i64)))))))))), (.slice (.pair (.int .i64) (.pair (.int .i64) (.int .i64)))), (.pair (.int .i64) (.pair (.int .i64) (.int .i64)))], pin := 0 }
abbrev so_plaitref06_instr : Shape := { sl := [(0, (.hole (.int .i64)))], bl := [], ts := [(.int .i64)], pin := 0 }
noncomputable def F_plaitref06_instr (x : ((List (Int) × (Int × (Int × (Int × (List ((List ((Bool × Int)) × Bool)) × List (List ((Int × (Int × Int))))))))) × List ((Int × (Int × Int))) × (Int × (Int × Int)))) : Option (Int) :=
  bif (decide (x.2.2.1 < (0 : Int))) then
    some (11 : Int)
  else
    bif (decide (x.2.2.1 > (13 : Int))) then
      some (11 : Int)
    else
      bif (decide (x.2.2.2.1 < (0 : Int))) then
        some (3 : Int)
      else
        ((F_plaitref06_most (x.1, (x.2.2.1, x.2.1)))).bind fun r10 =>
        bif (decide (x.2.2.2.1 ≥ r10)) then
          some (3 : Int)
        else
          bif (decide (x.2.2.2.2 < (0 : Int))) then
            some (3 : Int)
          else
            bif (x.2.2.1 == (7 : Int)) then
              bif (decide (x.2.2.2.2 > (((List.length x.2.1) : Nat) : Int))) then
                some (3 : Int)
              else
                bif (x.2.2.1 != (7 : Int)) then
                  bif (x.2.2.2.2 != (0 : Int)) then
                    some (3 : Int)
                  else
                    some (0 : Int)
                else
                  some (0 : Int)
            else
              bif (x.2.2.1 != (7 : Int)) then
                bif (x.2.2.2.2 != (0 : Int)) then
                  some (3 : Int)
                else
                  some (0 : Int)
              else
                some (0 : Int)
noncomputable def cx_plaitref06_instr : Ctx := { tb := mkTb T2.tbl, fx := [(71, [], Spec.shp si_plaitref06_most so_plaitref06_most F_plaitref06_most)], sum := [], nt := 53, pin := 0, nr := true, ys := [] }
theorem F_plaitref06_instr_ok : Sound Try.prog 46 (Spec.shp si_plaitref06_instr so_plaitref06_instr F_plaitref06_instr) :=
  Sound.shp (C := cx_plaitref06_instr) (fn := Try.f46) (by kernel_rfl) (c := bodyOf Try.f46) (by kernel_rfl) (by decide) (ctxOK mixed tbl_ok rfl ⟨F_plaitref06_most_ok, trivial⟩ trivial) (SumOK.of trivial) (by kernel_rfl) si_plaitref06_instr so_plaitref06_instr rfl (by decide) (by decide) rfl (by decide) rfl F_plaitref06_instr (fun x => by kernel_rfl)
abbrev sh_plaitref06_Wrong_11 : Shape := { sl := [(1, (.ptr 0 [])), (7, (.hole (.int .i64))), (8, (.hole (.slice (.pair (.int .i64) (.pair (.int .i64) (.int .i64)))))), (22, (.hole (.slice (.slice (.pair (.int .i64) (.pair (.int .i64) (.int .i64))))))), (23, (.hole (.int .i64))), (24, (.hole (.int .i64))), (33, (.hole (.slice (.pair (.int .i64) (.pair (.int .i64) (.int .i64)))))), (34, (.hole (.int .i64))), (35, (.hole (.int .i64)))], bl := [.var (.hole (.pair (.slice (.int .i64)) (.pair (.int .i64) (.pair (.int .i64) (.pair (.int .i64) (.pair (.slice (.pair (.slice (.pair .bool (.int .i64))) .bool)) (.slice (.slice (.pair (.int .i64) (.pair (.int .i64) (.int .i64)))))))))))], ts := [(.int .i64), (.slice (.pair (.int .i64) (.pair (.int .i64) (.int .i64)))), (.slice (.slice (.pair (.int .i64) (.pair (.int .i64) (.int .i64))))), (.int .i64), (.int .i64), (.slice (.pair (.int .i64) (.pair (.int .i64) (.int .i64)))), (.int .i64), (.int .i64), (.pair (.slice (.int .i64)) (.pair (.int .i64) (.pair (.int .i64) (.pair (.int .i64) (.pair (.slice (.pair (.slice (.pair .bool (.int .i64))) .bool)) (.slice (.slice (.pair (.int .i64) (.pair (.int .i64) (.int .i64))))))))))], pin := 0 }
abbrev es_plaitref06_Wrong_11 : List (ETag × Shape) := [(.ret, { sl := [(2, (.hole (.int .i64))), (3, (.hole (.int .i64))), (4, (.hole (.int .i64)))], bl := [], ts := [(.int .i64), (.int .i64), (.int .i64)], pin := 0 }), (.exit 2, { sl := [(1, (.ptr 0 [])), (22, (.hole (.slice (.slice (.pair (.int .i64) (.pair (.int .i64) (.int .i64))))))), (23, (.hole (.int .i64))), (24, (.hole (.int .i64)))], bl := [.var (.hole (.pair (.slice (.int .i64)) (.pair (.int .i64) (.pair (.int .i64) (.pair (.int .i64) (.pair (.slice (.pair (.slice (.pair .bool (.int .i64))) .bool)) (.slice (.slice (.pair (.int .i64) (.pair (.int .i64) (.int .i64)))))))))))], ts := [(.slice (.slice (.pair (.int .i64) (.pair (.int .i64) (.int .i64))))), (.int .i64), (.int .i64), (.pair (.slice (.int .i64)) (.pair (.int .i64) (.pair (.int .i64) (.pair (.int .i64) (.pair (.slice (.pair (.slice (.pair .bool (.int .i64))) .bool)) (.slice (.slice (.pair (.int .i64) (.pair (.int .i64) (.int .i64))))))))))], pin := 0 })]
noncomputable def L_plaitref06_Wrong_11 (x : (Int × List ((Int × (Int × Int))) × List (List ((Int × (Int × Int)))) × Int × Int × List ((Int × (Int × Int))) × Int × Int × (List (Int) × (Int × (Int × (Int × (List ((List ((Bool × Int)) × Bool)) × List (List ((Int × (Int × Int))))))))))) : Option ((Int × List ((Int × (Int × Int))) × List (List ((Int × (Int × Int)))) × Int × Int × List ((Int × (Int × Int))) × Int × Int × (List (Int) × (Int × (Int × (Int × (List ((List ((Bool × Int)) × Bool)) × List (List ((Int × (Int × Int)))))))))) ⊕ ((Int × Int × Int) ⊕ (List (List ((Int × (Int × Int)))) × Int × Int × (List (Int) × (Int × (Int × (Int × (List ((List ((Bool × Int)) × Bool)) × List (List ((Int × (Int × Int)))))))))))) :=
  bif (decide (x.2.2.2.2.2.2.2.1 < x.2.2.2.2.2.2.1)) then
    bif (Go.Proofs.Ytagjaiammndjoaa.VX.inb x.2.2.2.2.2.2.2.1 (List.length x.2.2.2.2.2.1)) then
      ((F_plaitref06_instr (x.2.2.2.2.2.2.2.2, (x.2.1, (Go.Proofs.Ytagjaiammndjoaa.VX.getAt ((0 : Int), ((0 : Int), (0 : Int))) x.2.2.2.2.2.1 (Go.Proofs.Ytagjaiammndjoaa.VX.toN x.2.2.2.2.2.2.2.1)))))).bind fun r9 =>
      bif (r9 != (0 : Int)) then
        some (.inr (.inl (x.1, (x.2.2.2.2.2.2.2.1, r9))))
      else
        some (.inl (x.1, (x.2.1, (x.2.2.1, (x.2.2.2.1, (x.2.2.2.2.1, (x.2.2.2.2.2.1, (x.2.2.2.2.2.2.1, ((Go.IntKind.wrap Go.IntKind.i64 (x.2.2.2.2.2.2.2.1 + (1 : Int))), x.2.2.2.2.2.2.2.2)))))))))
    else
      none
  else
    some (.inr (.inr (x.2.2.1, (x.2.2.2.1, (x.2.2.2.2.1, x.2.2.2.2.2.2.2.2)))))
noncomputable def cx_plaitref06_Wrong_11 : Ctx := { tb := mkTb T2.tbl, fx := [(45, [], Spec.shp si_plaitref06_tables so_plaitref06_tables F_plaitref06_tables), (46, [], Spec.shp si_plaitref06_instr so_plaitref06_instr F_plaitref06_instr)], sum := [], nt := 51, pin := 0, nr := true, ys := [] }
theorem L_plaitref06_Wrong_11_ok : CSound Try.prog ⟨51, 0, true⟩ (.loop (loopOf 11 Try.f25)) (pieceSpec sh_plaitref06_Wrong_11 es_plaitref06_Wrong_11 (loop L_plaitref06_Wrong_11)) :=
  loop_sound (C := cx_plaitref06_Wrong_11) (ctxOK mixed tbl_ok rfl ⟨F_plaitref06_tables_ok, F_plaitref06_instr_ok, trivial⟩ trivial) (SumOK.of trivial) sh_plaitref06_Wrong_11 es_plaitref06_Wrong_11 rfl rfl L_plaitref06_Wrong_11 (fun x => by kernel_rfl)
abbrev sh_plaitref06_Wrong_6 : Shape := { sl := [(1, (.ptr 0 [])), (22, (.hole (.slice (.slice (.pair (.int .i64) (.pair (.int .i64) (.int .i64))))))), (23, (.hole (.int .i64))), (24, (.hole (.int .i64)))], bl := [.var (.hole (.pair (.slice (.int .i64)) (.pair (.int .i64) (.pair (.int .i64) (.pair (.int .i64) (.pair (.slice (.pair (.slice (.pair .bool (.int .i64))) .bool)) (.slice (.slice (.pair (.int .i64) (.pair (.int .i64) (.int .i64)))))))))))], ts := [(.slice (.slice (.pair (.int .i64) (.pair (.int .i64) (.int .i64))))), (.int .i64), (.int .i64), (.pair (.slice (.int .i64)) (.pair (.int .i64) (.pair (.int .i64) (.pair (.int .i64) (.pair (.slice (.pair (.slice (.pair .bool (.int .i64))) .bool)) (.slice (.slice (.pair (.int .i64) (.pair (.int .i64) (.int .i64))))))))))], pin := 0 }
abbrev es_plaitref06_Wrong_6 : List (ETag × Shape) := [(.ret, { sl := [(2, (.hole (.int .i64))), (3, (.hole (.int .i64))), (4, (.hole (.int .i64)))], bl := [], ts := [(.int .i64), (.int .i64), (.int .i64)], pin := 0 }), (.exit 0, { sl := [], bl := [], ts := [], pin := 0 })]
noncomputable def L_plaitref06_Wrong_6 (x : (List (List ((Int × (Int × Int)))) × Int × Int × (List (Int) × (Int × (Int × (Int × (List ((List ((Bool × Int)) × Bool)) × List (List ((Int × (Int × Int))))))))))) : Option ((List (List ((Int × (Int × Int)))) × Int × Int × (List (Int) × (Int × (Int × (Int × (List ((List ((Bool × Int)) × Bool)) × List (List ((Int × (Int × Int)))))))))) ⊕ ((Int × Int × Int) ⊕ Unit)) :=
  bif (decide (x.2.2.1 < x.2.1)) then
    bif (Go.Proofs.Ytagjaiammndjoaa.VX.inb x.2.2.1 (List.length x.1)) then
      bif (decide ((((List.length (Go.Proofs.Ytagjaiammndjoaa.VX.getAt ([] : List (Int × (Int × Int))) x.1 (Go.Proofs.Ytagjaiammndjoaa.VX.toN x.2.2.1))) : Nat) : Int) > (24 : Int))) then
        some (.inr (.inl (x.2.2.1, ((Int.negSucc 0), (2 : Int)))))
      else
        ((loop L_plaitref06_Wrong_11 (x.2.2.1, ((Go.Proofs.Ytagjaiammndjoaa.VX.getAt ([] : List (Int × (Int × Int))) x.1 (Go.Proofs.Ytagjaiammndjoaa.VX.toN x.2.2.1)), (x.1, (x.2.1, (x.2.2.1, ((Go.Proofs.Ytagjaiammndjoaa.VX.getAt ([] : List (Int × (Int × Int))) x.1 (Go.Proofs.Ytagjaiammndjoaa.VX.toN x.2.2.1)), ((((List.length (Go.Proofs.Ytagjaiammndjoaa.VX.getAt ([] : List (Int × (Int × Int))) x.1 (Go.Proofs.Ytagjaiammndjoaa.VX.toN x.2.2.1))) : Nat) : Int), ((0 : Int), x.2.2.2)))))))))).bind fun r8 =>
        match r8 with
        | .inl y9 =>
          some (.inr (.inl (y9.1, (y9.2.1, y9.2.2))))
        | .inr y9 =>
          some (.inl (y9.1, (y9.2.1, ((Go.IntKind.wrap Go.IntKind.i64 (y9.2.2.1 + (1 : Int))), y9.2.2.2))))
    else
      none
  else
    some (.inr (.inr ()))
noncomputable def cx_plaitref06_Wrong_6 : Ctx := { tb := mkTb T2.tbl, fx := [(45, [], Spec.shp si_plaitref06_tables so_plaitref06_tables F_plaitref06_tables), (46, [], Spec.shp si_plaitref06_instr so_plaitref06_instr F_plaitref06_instr)], sum := [(0, 11, pieceSpec sh_plaitref06_Wrong_11 es_plaitref06_Wrong_11 (loop L_plaitref06_Wrong_11))], nt := 51, pin := 0, nr := true, ys := [] }
theorem L_plaitref06_Wrong_6_ok : CSound Try.prog ⟨51, 0, true⟩ (.loop (loopOf 6 Try.f25)) (pieceSpec sh_plaitref06_Wrong_6 es_plaitref06_Wrong_6 (loop L_plaitref06_Wrong_6)) :=
  loop_sound (C := cx_plaitref06_Wrong_6) (ctxOK mixed tbl_ok rfl ⟨F_plaitref06_tables_ok, F_plaitref06_instr_ok, trivial⟩ trivial) (SumOK.of ⟨(pieces_one (d := .loop (loopOf 11 Try.f25)) (by kernel_rfl) L_plaitref06_Wrong_11_ok), trivial⟩) sh_plaitref06_Wrong_6 es_plaitref06_Wrong_6 rfl rfl L_plaitref06_Wrong_6 (fun x => by kernel_rfl)
abbrev si_plaitref06_Wrong : Shape := { sl := [(0, (.hole (.pair (.slice (.int .i64)) (.pair (.int .i64) (.pair (.int .i64) (.pair (.int .i64) (.pair (.slice (.pair (.slice (.pair .bool (.int .i64))) .bool)) (.slice (.slice (.pair (.int .i64) (.pair (.int .i64) (.int .i64))))))))))))], bl := [], ts := [(.pair (.slice (.int .i64)) (.pair (.int .i64) (.pair (.int .i64) (.pair (.int .i64) (.pair (.slice (.pair (.slice (.pair .bool (.int .i64))) .bool)) (.slice (.slice (.pair (.int .i64) (.pair (.int .i64) (.int .i64))))))))))], pin := 0 }
abbrev so_plaitref06_Wrong : Shape := { sl := [(0, (.hole (.int .i64))), (1, (.hole (.int .i64))), (2, (.hole (.int .i64)))], bl := [], ts := [(.int .i64), (.int .i64), (.int .i64)], pin := 0 }
noncomputable def F_plaitref06_Wrong (x : ((List (Int) × (Int × (Int × (Int × (List ((List ((Bool × Int)) × Bool)) × List (List ((Int × (Int × Int))))))))))) : Option (Int × Int × Int) :=
  ((F_plaitref06_tables x)).bind fun r6 =>
  bif (r6.2 != (0 : Int)) then
    some ((Int.negSucc 0), (r6.1, r6.2))
  else
    ((loop L_plaitref06_Wrong_6 (x.2.2.2.2.2, ((((List.length x.2.2.2.2.2) : Nat) : Int), ((0 : Int), x))))).bind fun r7 =>
    match r7 with
    | .inl y8 =>
      some (y8.1, (y8.2.1, y8.2.2))
    | .inr y8 =>
      some ((Int.negSucc 0), ((Int.negSucc 0), (0 : Int)))
noncomputable def cx_plaitref06_Wrong : Ctx := { tb := mkTb T2.tbl, fx := [(45, [], Spec.shp si_plaitref06_tables so_plaitref06_tables F_plaitref06_tables), (46, [], Spec.shp si_plaitref06_instr so_plaitref06_instr F_plaitref06_instr)], sum := [(0, 11, pieceSpec sh_plaitref06_Wrong_11 es_plaitref06_Wrong_11 (loop L_plaitref06_Wrong_11)), (0, 6, pieceSpec sh_plaitref06_Wrong_6 es_plaitref06_Wrong_6 (loop L_plaitref06_Wrong_6))], nt := 51, pin := 0, nr := true, ys := [] }
theorem F_plaitref06_Wrong_ok : Sound Try.prog 25 (Spec.shp si_plaitref06_Wrong so_plaitref06_Wrong F_plaitref06_Wrong) :=
  Sound.shp (C := cx_plaitref06_Wrong) (fn := Try.f25) (by kernel_rfl) (c := bodyOf Try.f25) (by kernel_rfl) (by decide) (ctxOK mixed tbl_ok rfl ⟨F_plaitref06_tables_ok, F_plaitref06_instr_ok, trivial⟩ trivial) (SumOK.of ⟨(pieces_one (d := .loop (loopOf 11 Try.f25)) (by kernel_rfl) L_plaitref06_Wrong_11_ok), (pieces_one (d := .loop (loopOf 6 Try.f25)) (by kernel_rfl) L_plaitref06_Wrong_6_ok), trivial⟩) (by kernel_rfl) si_plaitref06_Wrong so_plaitref06_Wrong rfl (by decide) (by decide) rfl (by decide) rfl F_plaitref06_Wrong (fun x => by kernel_rfl)
abbrev sh_plaitref06_Reach_4 : Shape := { sl := [(1, (.ptr 0 [])), (3, (.sl 1)), (12, (.hole (.int .i64))), (13, (.hole (.int .i64)))], bl := [.var (.hole (.pair (.slice (.int .i64)) (.pair (.int .i64) (.pair (.int .i64) (.pair (.int .i64) (.pair (.slice (.pair (.slice (.pair .bool (.int .i64))) .bool)) (.slice (.slice (.pair (.int .i64) (.pair (.int .i64) (.int .i64))))))))))), .row .bool], ts := [(.int .i64), (.int .i64), (.pair (.slice (.int .i64)) (.pair (.int .i64) (.pair (.int .i64) (.pair (.int .i64) (.pair (.slice (.pair (.slice (.pair .bool (.int .i64))) .bool)) (.slice (.slice (.pair (.int .i64) (.pair (.int .i64) (.int .i64)))))))))), (.slice .bool)], pin := 0 }
abbrev es_plaitref06_Reach_4 : List (ETag × Shape) := [(.exit 0, { sl := [(1, (.ptr 0 [])), (3, (.sl 1))], bl := [.var (.hole (.pair (.slice (.int .i64)) (.pair (.int .i64) (.pair (.int .i64) (.pair (.int .i64) (.pair (.slice (.pair (.slice (.pair .bool (.int .i64))) .bool)) (.slice (.slice (.pair (.int .i64) (.pair (.int .i64) (.int .i64))))))))))), .row .bool], ts := [(.pair (.slice (.int .i64)) (.pair (.int .i64) (.pair (.int .i64) (.pair (.int .i64) (.pair (.slice (.pair (.slice (.pair .bool (.int .i64))) .bool)) (.slice (.slice (.pair (.int .i64) (.pair (.int .i64) (.int .i64)))))))))), (.slice .bool)], pin := 0 })]
noncomputable def L_plaitref06_Reach_4 (x : (Int × Int × (List (Int) × (Int × (Int × (Int × (List ((List ((Bool × Int)) × Bool)) × List (List ((Int × (Int × Int))))))))) × List (Bool))) : Option ((Int × Int × (List (Int) × (Int × (Int × (Int × (List ((List ((Bool × Int)) × Bool)) × List (List ((Int × (Int × Int))))))))) × List (Bool)) ⊕ (((List (Int) × (Int × (Int × (Int × (List ((List ((Bool × Int)) × Bool)) × List (List ((Int × (Int × Int))))))))) × List (Bool)))) :=
  bif (decide (x.2.1 < x.1)) then
    bif (Go.Proofs.Ytagjaiammndjoaa.VX.fits ((List.length x.2.2.2) + (List.length (((((List.length x.2.2.2) : Nat) : Int) == (0 : Int)) :: ([] : List Bool))))) then
      some (.inl (x.1, ((Go.IntKind.wrap Go.IntKind.i64 (x.2.1 + (1 : Int))), (x.2.2.1, (x.2.2.2 ++ (((((List.length x.2.2.2) : Nat) : Int) == (0 : Int)) :: ([] : List Bool)))))))
    else
      none
  else
    some (.inr (x.2.2.1, x.2.2.2))
noncomputable def cx_plaitref06_Reach_4 : Ctx := { tb := mkTb T2.tbl, fx := [], sum := [], nt := 70, pin := 0, nr := true, ys := [] }
theorem L_plaitref06_Reach_4_ok : CSound Try.prog ⟨70, 0, true⟩ (.loop (loopOf 4 Try.f27)) (pieceSpec sh_plaitref06_Reach_4 es_plaitref06_Reach_4 (loop L_plaitref06_Reach_4)) :=
  loop_sound (C := cx_plaitref06_Reach_4) (ctxOK mixed tbl_ok rfl trivial trivial) (SumOK.of trivial) sh_plaitref06_Reach_4 es_plaitref06_Reach_4 rfl rfl L_plaitref06_Reach_4 (fun x => by kernel_rfl)
abbrev sh_plaitref06_starts_3 : Shape := { sl := [(2, (.hole (.int .i64))), (13, (.hole (.slice (.pair (.int .i64) (.pair (.int .i64) (.int .i64)))))), (14, (.hole (.int .i64))), (15, (.hole (.int .i64)))], bl := [], ts := [(.int .i64), (.slice (.pair (.int .i64) (.pair (.int .i64) (.int .i64)))), (.int .i64), (.int .i64)], pin := 0 }
abbrev es_plaitref06_starts_3 : List (ETag × Shape) := [(.ret, { sl := [(6, (.hole .bool))], bl := [], ts := [.bool], pin := 0 }), (.exit 0, { sl := [], bl := [], ts := [], pin := 0 })]
noncomputable def L_plaitref06_starts_3 (x : (Int × List ((Int × (Int × Int))) × Int × Int)) : Option ((Int × List ((Int × (Int × Int))) × Int × Int) ⊕ ((Bool) ⊕ Unit)) :=
  bif (decide (x.2.2.2 < x.2.2.1)) then
    bif (Go.Proofs.Ytagjaiammndjoaa.VX.inb x.2.2.2 (List.length x.2.1)) then
      bif ((Go.Proofs.Ytagjaiammndjoaa.VX.getAt ((0 : Int), ((0 : Int), (0 : Int))) x.2.1 (Go.Proofs.Ytagjaiammndjoaa.VX.toN x.2.2.2)).1 == (9 : Int)) then
        bif ((Go.Proofs.Ytagjaiammndjoaa.VX.getAt ((0 : Int), ((0 : Int), (0 : Int))) x.2.1 (Go.Proofs.Ytagjaiammndjoaa.VX.toN x.2.2.2)).2.1 == x.1) then
          some (.inr (.inl true))
        else
          some (.inl (x.1, (x.2.1, (x.2.2.1, (Go.IntKind.wrap Go.IntKind.i64 (x.2.2.2 + (1 : Int)))))))
      else
        some (.inl (x.1, (x.2.1, (x.2.2.1, (Go.IntKind.wrap Go.IntKind.i64 (x.2.2.2 + (1 : Int)))))))
    else
      none
  else
    some (.inr (.inr ()))
noncomputable def cx_plaitref06_starts_3 : Ctx := { tb := mkTb T2.tbl, fx := [], sum := [], nt := 29, pin := 0, nr := true, ys := [] }
theorem L_plaitref06_starts_3_ok : CSound Try.prog ⟨29, 0, true⟩ (.loop (loopOf 3 Try.f47)) (pieceSpec sh_plaitref06_starts_3 es_plaitref06_starts_3 (loop L_plaitref06_starts_3)) :=
  loop_sound (C := cx_plaitref06_starts_3) (ctxOK mixed tbl_ok rfl trivial trivial) (SumOK.of trivial) sh_plaitref06_starts_3 es_plaitref06_starts_3 rfl rfl L_plaitref06_starts_3 (fun x => by kernel_rfl)
abbrev si_plaitref06_starts : Shape := { sl := [(0, (.hole (.pair (.slice (.int .i64)) (.pair (.int .i64) (.pair (.int .i64) (.pair (.int .i64) (.pair (.slice (.pair (.slice (.pair .bool (.int .i64))) .bool)) (.slice (.slice (.pair (.int .i64) (.pair (.int .i64) (.int .i64)))))))))))), (1, (.hole (.int .i64))), (2, (.hole (.int .i64)))], bl := [], ts := [(.pair (.slice (.int .i64)) (.pair (.int .i64) (.pair (.int .i64) (.pair (.int .i64) (.pair (.slice (.pair (.slice (.pair .bool (.int .i64))) .bool)) (.slice (.slice (.pair (.int .i64) (.pair (.int .i64) (.int .i64)))))))))), (.int .i64), (.int .i64)], pin := 0 }
abbrev so_plaitref06_starts : Shape := { sl := [(0, (.hole .bool))], bl := [], ts := [.bool], pin := 0 }
noncomputable def F_plaitref06_starts (x : ((List (Int) × (Int × (Int × (Int × (List ((List ((Bool × Int)) × Bool)) × List (List ((Int × (Int × Int))))))))) × Int × Int)) : Option (Bool) :=
  bif (Go.Proofs.Ytagjaiammndjoaa.VX.inb x.2.1 (List.length x.1.2.2.2.2.2)) then
    ((loop L_plaitref06_starts_3 (x.2.2, ((Go.Proofs.Ytagjaiammndjoaa.VX.getAt ([] : List (Int × (Int × Int))) x.1.2.2.2.2.2 (Go.Proofs.Ytagjaiammndjoaa.VX.toN x.2.1)), ((((List.length (Go.Proofs.Ytagjaiammndjoaa.VX.getAt ([] : List (Int × (Int × Int))) x.1.2.2.2.2.2 (Go.Proofs.Ytagjaiammndjoaa.VX.toN x.2.1))) : Nat) : Int), (0 : Int)))))).bind fun r14 =>
    match r14 with
    | .inl y15 =>
      some y15
    | .inr y15 =>
      some false
  else
    none
noncomputable def cx_plaitref06_starts : Ctx := { tb := mkTb T2.tbl, fx := [], sum := [(0, 3, pieceSpec sh_plaitref06_starts_3 es_plaitref06_starts_3 (loop L_plaitref06_starts_3))], nt := 29, pin := 0, nr := true, ys := [] }
theorem F_plaitref06_starts_ok : Sound Try.prog 47 (Spec.shp si_plaitref06_starts so_plaitref06_starts F_plaitref06_starts) :=
  Sound.shp (C := cx_plaitref06_starts) (fn := Try.f47) (by kernel_rfl) (c := bodyOf Try.f47) (by kernel_rfl) (by decide) (ctxOK mixed tbl_ok rfl trivial trivial) (SumOK.of ⟨(pieces_one (d := .loop (loopOf 3 Try.f47)) (by kernel_rfl) L_plaitref06_starts_3_ok), trivial⟩) (by kernel_rfl) si_plaitref06_starts so_plaitref06_starts rfl (by decide) (by decide) rfl (by decide) rfl F_plaitref06_starts (fun x => by kernel_rfl)
abbrev sh_plaitref06_Reach_13 : Shape := { sl := [(1, (.ptr 0 [])), (3, (.sl 1)), (4, (.hole (.int .i64))), (24, (.hole (.int .i64))), (25, (.hole (.int .i64))), (29, (.hole (.int .i64))), (30, (.hole (.int .i64))), (35, (.hole (.int .i64))), (36, (.hole (.int .i64)))], bl := [.var (.hole (.pair (.slice (.int .i64)) (.pair (.int .i64) (.pair (.int .i64) (.pair (.int .i64) (.pair (.slice (.pair (.slice (.pair .bool (.int .i64))) .bool)) (.slice (.slice (.pair (.int .i64) (.pair (.int .i64) (.int .i64))))))))))), .row .bool], ts := [(.int .i64), (.int .i64), (.int .i64), (.int .i64), (.int .i64), (.int .i64), (.int .i64), (.pair (.slice (.int .i64)) (.pair (.int .i64) (.pair (.int .i64) (.pair (.int .i64) (.pair (.slice (.pair (.slice (.pair .bool (.int .i64))) .bool)) (.slice (.slice (.pair (.int .i64) (.pair (.int .i64) (.int .i64)))))))))), (.slice .bool)], pin := 0 }
abbrev es_plaitref06_Reach_13 : List (ETag × Shape) := [(.exit 6, { sl := [(1, (.ptr 0 [])), (3, (.sl 1)), (24, (.hole (.int .i64))), (25, (.hole (.int .i64))), (29, (.hole (.int .i64))), (30, (.hole (.int .i64)))], bl := [.var (.hole (.pair (.slice (.int .i64)) (.pair (.int .i64) (.pair (.int .i64) (.pair (.int .i64) (.pair (.slice (.pair (.slice (.pair .bool (.int .i64))) .bool)) (.slice (.slice (.pair (.int .i64) (.pair (.int .i64) (.int .i64))))))))))), .row .bool], ts := [(.int .i64), (.int .i64), (.int .i64), (.int .i64), (.pair (.slice (.int .i64)) (.pair (.int .i64) (.pair (.int .i64) (.pair (.int .i64) (.pair (.slice (.pair (.slice (.pair .bool (.int .i64))) .bool)) (.slice (.slice (.pair (.int .i64) (.pair (.int .i64) (.int .i64)))))))))), (.slice .bool)], pin := 0 })]
noncomputable def L_plaitref06_Reach_13 (x : (Int × Int × Int × Int × Int × Int × Int × (List (Int) × (Int × (Int × (Int × (List ((List ((Bool × Int)) × Bool)) × List (List ((Int × (Int × Int))))))))) × List (Bool))) : Option ((Int × Int × Int × Int × Int × Int × Int × (List (Int) × (Int × (Int × (Int × (List ((List ((Bool × Int)) × Bool)) × List (List ((Int × (Int × Int))))))))) × List (Bool)) ⊕ ((Int × Int × Int × Int × (List (Int) × (Int × (Int × (Int × (List ((List ((Bool × Int)) × Bool)) × List (List ((Int × (Int × Int))))))))) × List (Bool)))) :=
  bif (decide (x.2.2.2.2.2.2.1 < x.2.2.2.2.2.1)) then
    bif (Go.Proofs.Ytagjaiammndjoaa.VX.inb x.1 (List.length x.2.2.2.2.2.2.2.2)) then
      bif (Go.Proofs.Ytagjaiammndjoaa.VX.getAt false x.2.2.2.2.2.2.2.2 (Go.Proofs.Ytagjaiammndjoaa.VX.toN x.1)) then
        ((F_plaitref06_starts (x.2.2.2.2.2.2.2.1, (x.1, x.2.2.2.2.2.2.1)))).bind fun r13 =>
        bif r13 then
          bif (Go.Proofs.Ytagjaiammndjoaa.VX.inb x.2.2.2.2.2.2.1 (List.length x.2.2.2.2.2.2.2.2)) then
            some (.inl (x.1, (x.2.1, (x.2.2.1, (x.2.2.2.1, (x.2.2.2.2.1, (x.2.2.2.2.2.1, ((Go.IntKind.wrap Go.IntKind.i64 (x.2.2.2.2.2.2.1 + (1 : Int))), (x.2.2.2.2.2.2.2.1, (List.set x.2.2.2.2.2.2.2.2 (Go.Proofs.Ytagjaiammndjoaa.VX.toN x.2.2.2.2.2.2.1) true))))))))))
          else
            none
        else
          some (.inl (x.1, (x.2.1, (x.2.2.1, (x.2.2.2.1, (x.2.2.2.2.1, (x.2.2.2.2.2.1, ((Go.IntKind.wrap Go.IntKind.i64 (x.2.2.2.2.2.2.1 + (1 : Int))), (x.2.2.2.2.2.2.2.1, x.2.2.2.2.2.2.2.2)))))))))
      else
        some (.inl (x.1, (x.2.1, (x.2.2.1, (x.2.2.2.1, (x.2.2.2.2.1, (x.2.2.2.2.2.1, ((Go.IntKind.wrap Go.IntKind.i64 (x.2.2.2.2.2.2.1 + (1 : Int))), (x.2.2.2.2.2.2.2.1, x.2.2.2.2.2.2.2.2)))))))))
    else
      none
  else
    some (.inr (x.2.1, (x.2.2.1, (x.2.2.2.1, (x.2.2.2.2.1, (x.2.2.2.2.2.2.2.1, x.2.2.2.2.2.2.2.2))))))
noncomputable def cx_plaitref06_Reach_13 : Ctx := { tb := mkTb T2.tbl, fx := [(47, [], Spec.shp si_plaitref06_starts so_plaitref06_starts F_plaitref06_starts)], sum := [(0, 4, pieceSpec sh_plaitref06_Reach_4 es_plaitref06_Reach_4 (loop L_plaitref06_Reach_4))], nt := 70, pin := 0, nr := true, ys := [] }
theorem L_plaitref06_Reach_13_ok : CSound Try.prog ⟨70, 0, true⟩ (.loop (loopOf 13 Try.f27)) (pieceSpec sh_plaitref06_Reach_13 es_plaitref06_Reach_13 (loop L_plaitref06_Reach_13)) :=
  loop_sound (C := cx_plaitref06_Reach_13) (ctxOK mixed tbl_ok rfl ⟨F_plaitref06_starts_ok, trivial⟩ trivial) (SumOK.of ⟨(pieces_none (by kernel_rfl)), trivial⟩) sh_plaitref06_Reach_13 es_plaitref06_Reach_13 rfl rfl L_plaitref06_Reach_13 (fun x => by kernel_rfl)
abbrev sh_plaitref06_Reach_10 : Shape := { sl := [(1, (.ptr 0 [])), (3, (.sl 1)), (24, (.hole (.int .i64))), (25, (.hole (.int .i64))), (29, (.hole (.int .i64))), (30, (.hole (.int .i64)))], bl := [.var (.hole (.pair (.slice (.int .i64)) (.pair (.int .i64) (.pair (.int .i64) (.pair (.int .i64) (.pair (.slice (.pair (.slice (.pair .bool (.int .i64))) .bool)) (.slice (.slice (.pair (.int .i64) (.pair (.int .i64) (.int .i64))))))))))), .row .bool], ts := [(.int .i64), (.int .i64), (.int .i64), (.int .i64), (.pair (.slice (.int .i64)) (.pair (.int .i64) (.pair (.int .i64) (.pair (.int .i64) (.pair (.slice (.pair (.slice (.pair .bool (.int .i64))) .bool)) (.slice (.slice (.pair (.int .i64) (.pair (.int .i64) (.int .i64)))))))))), (.slice .bool)], pin := 0 }
abbrev es_plaitref06_Reach_10 : List (ETag × Shape) := [(.exit 4, { sl := [(1, (.ptr 0 [])), (3, (.sl 1)), (24, (.hole (.int .i64))), (25, (.hole (.int .i64)))], bl := [.var (.hole (.pair (.slice (.int .i64)) (.pair (.int .i64) (.pair (.int .i64) (.pair (.int .i64) (.pair (.slice (.pair (.slice (.pair .bool (.int .i64))) .bool)) (.slice (.slice (.pair (.int .i64) (.pair (.int .i64) (.int .i64))))))))))), .row .bool], ts := [(.int .i64), (.int .i64), (.pair (.slice (.int .i64)) (.pair (.int .i64) (.pair (.int .i64) (.pair (.int .i64) (.pair (.slice (.pair (.slice (.pair .bool (.int .i64))) .bool)) (.slice (.slice (.pair (.int .i64) (.pair (.int .i64) (.int .i64)))))))))), (.slice .bool)], pin := 0 })]
noncomputable def L_plaitref06_Reach_10 (x : (Int × Int × Int × Int × (List (Int) × (Int × (Int × (Int × (List ((List ((Bool × Int)) × Bool)) × List (List ((Int × (Int × Int))))))))) × List (Bool))) : Option ((Int × Int × Int × Int × (List (Int) × (Int × (Int × (Int × (List ((List ((Bool × Int)) × Bool)) × List (List ((Int × (Int × Int))))))))) × List (Bool)) ⊕ ((Int × Int × (List (Int) × (Int × (Int × (Int × (List ((List ((Bool × Int)) × Bool)) × List (List ((Int × (Int × Int))))))))) × List (Bool)))) :=
  bif (decide (x.2.2.2.1 < x.2.2.1)) then
    ((loop L_plaitref06_Reach_13 (x.2.2.2.1, (x.1, (x.2.1, (x.2.2.1, (x.2.2.2.1, ((((List.length x.2.2.2.2.1.2.2.2.2.2) : Nat) : Int), ((0 : Int), (x.2.2.2.2.1, x.2.2.2.2.2)))))))))).bind fun r12 =>
    some (.inl (r12.1, (r12.2.1, (r12.2.2.1, ((Go.IntKind.wrap Go.IntKind.i64 (r12.2.2.2.1 + (1 : Int))), (r12.2.2.2.2.1, r12.2.2.2.2.2))))))
  else
    some (.inr (x.1, (x.2.1, (x.2.2.2.2.1, x.2.2.2.2.2))))
noncomputable def cx_plaitref06_Reach_10 : Ctx := { tb := mkTb T2.tbl, fx := [(47, [], Spec.shp si_plaitref06_starts so_plaitref06_starts F_plaitref06_starts)], sum := [(0, 4, pieceSpec sh_plaitref06_Reach_4 es_plaitref06_Reach_4 (loop L_plaitref06_Reach_4)), (0, 13, pieceSpec sh_plaitref06_Reach_13 es_plaitref06_Reach_13 (loop L_plaitref06_Reach_13))], nt := 70, pin := 0, nr := true, ys := [] }
theorem L_plaitref06_Reach_10_ok : CSound Try.prog ⟨70, 0, true⟩ (.loop (loopOf 10 Try.f27)) (pieceSpec sh_plaitref06_Reach_10 es_plaitref06_Reach_10 (loop L_plaitref06_Reach_10)) :=
  loop_sound (C := cx_plaitref06_Reach_10) (ctxOK mixed tbl_ok rfl ⟨F_plaitref06_starts_ok, trivial⟩ trivial) (SumOK.of ⟨(pieces_none (by kernel_rfl)), (pieces_one (d := .loop (loopOf 13 Try.f27)) (by kernel_rfl) L_plaitref06_Reach_13_ok), trivial⟩) sh_plaitref06_Reach_10 es_plaitref06_Reach_10 rfl rfl L_plaitref06_Reach_10 (fun x => by kernel_rfl)
abbrev sh_plaitref06_Reach_8 : Shape := { sl := [(1, (.ptr 0 [])), (3, (.sl 1)), (24, (.hole (.int .i64))), (25, (.hole (.int .i64)))], bl := [.var (.hole (.pair (.slice (.int .i64)) (.pair (.int .i64) (.pair (.int .i64) (.pair (.int .i64) (.pair (.slice (.pair (.slice (.pair .bool (.int .i64))) .bool)) (.slice (.slice (.pair (.int .i64) (.pair (.int .i64) (.int .i64))))))))))), .row .bool], ts := [(.int .i64), (.int .i64), (.pair (.slice (.int .i64)) (.pair (.int .i64) (.pair (.int .i64) (.pair (.int .i64) (.pair (.slice (.pair (.slice (.pair .bool (.int .i64))) .bool)) (.slice (.slice (.pair (.int .i64) (.pair (.int .i64) (.int .i64)))))))))), (.slice .bool)], pin := 0 }
abbrev es_plaitref06_Reach_8 : List (ETag × Shape) := [(.exit 2, { sl := [(3, (.sl 0))], bl := [.row .bool], ts := [(.slice .bool)], pin := 0 })]
noncomputable def L_plaitref06_Reach_8 (x : (Int × Int × (List (Int) × (Int × (Int × (Int × (List ((List ((Bool × Int)) × Bool)) × List (List ((Int × (Int × Int))))))))) × List (Bool))) : Option ((Int × Int × (List (Int) × (Int × (Int × (Int × (List ((List ((Bool × Int)) × Bool)) × List (List ((Int × (Int × Int))))))))) × List (Bool)) ⊕ ((List (Bool)))) :=
  bif (decide (x.2.1 < x.1)) then
    ((loop L_plaitref06_Reach_10 (x.1, (x.2.1, ((((List.length x.2.2.1.2.2.2.2.2) : Nat) : Int), ((0 : Int), (x.2.2.1, x.2.2.2))))))).bind fun r11 =>
    some (.inl (r11.1, ((Go.IntKind.wrap Go.IntKind.i64 (r11.2.1 + (1 : Int))), (r11.2.2.1, r11.2.2.2))))
  else
    some (.inr x.2.2.2)
noncomputable def cx_plaitref06_Reach_8 : Ctx := { tb := mkTb T2.tbl, fx := [(47, [], Spec.shp si_plaitref06_starts so_plaitref06_starts F_plaitref06_starts)], sum := [(0, 4, pieceSpec sh_plaitref06_Reach_4 es_plaitref06_Reach_4 (loop L_plaitref06_Reach_4)), (0, 13, pieceSpec sh_plaitref06_Reach_13 es_plaitref06_Reach_13 (loop L_plaitref06_Reach_13)), (0, 10, pieceSpec sh_plaitref06_Reach_10 es_plaitref06_Reach_10 (loop L_plaitref06_Reach_10))], nt := 70, pin := 0, nr := true, ys := [] }
theorem L_plaitref06_Reach_8_ok : CSound Try.prog ⟨70, 0, true⟩ (.loop (loopOf 8 Try.f27)) (pieceSpec sh_plaitref06_Reach_8 es_plaitref06_Reach_8 (loop L_plaitref06_Reach_8)) :=
  loop_sound (C := cx_plaitref06_Reach_8) (ctxOK mixed tbl_ok rfl ⟨F_plaitref06_starts_ok, trivial⟩ trivial) (SumOK.of ⟨(pieces_none (by kernel_rfl)), (pieces_one (d := .loop (loopOf 13 Try.f27)) (by kernel_rfl) L_plaitref06_Reach_13_ok), (pieces_one (d := .loop (loopOf 10 Try.f27)) (by kernel_rfl) L_plaitref06_Reach_10_ok), trivial⟩) sh_plaitref06_Reach_8 es_plaitref06_Reach_8 rfl rfl L_plaitref06_Reach_8 (fun x => by kernel_rfl)
abbrev sh_plaitref06_Reach_22 : Shape := { sl := [(6, (.sl 0)), (56, (.sl 1)), (57, (.hole (.int .i64))), (58, (.hole (.int .i64)))], bl := [.row (.int .i64), .row .bool], ts := [(.int .i64), (.int .i64), (.slice (.int .i64)), (.slice .bool)], pin := 0 }
abbrev es_plaitref06_Reach_22 : List (ETag × Shape) := [(.exit 8, { sl := [(6, (.sl 0))], bl := [.row (.int .i64)], ts := [(.slice (.int .i64))], pin := 0 })]
noncomputable def L_plaitref06_Reach_22 (x : (Int × Int × List (Int) × List (Bool))) : Option ((Int × Int × List (Int) × List (Bool)) ⊕ ((List (Int)))) :=
  bif (decide (x.2.1 < x.1)) then
    bif (Go.Proofs.Ytagjaiammndjoaa.VX.inb x.2.1 (List.length x.2.2.2)) then
      bif (Go.Proofs.Ytagjaiammndjoaa.VX.getAt false x.2.2.2 (Go.Proofs.Ytagjaiammndjoaa.VX.toN x.2.1)) then
        bif (Go.Proofs.Ytagjaiammndjoaa.VX.fits ((List.length x.2.2.1) + (List.length (x.2.1 :: ([] : List Int))))) then
          some (.inl (x.1, ((Go.IntKind.wrap Go.IntKind.i64 (x.2.1 + (1 : Int))), ((x.2.2.1 ++ (x.2.1 :: ([] : List Int))), x.2.2.2))))
        else
          none
      else
        some (.inl (x.1, ((Go.IntKind.wrap Go.IntKind.i64 (x.2.1 + (1 : Int))), (x.2.2.1, x.2.2.2))))
    else
      none
  else
    some (.inr x.2.2.1)
noncomputable def cx_plaitref06_Reach_22 : Ctx := { tb := mkTb T2.tbl, fx := [(47, [], Spec.shp si_plaitref06_starts so_plaitref06_starts F_plaitref06_starts)], sum := [(0, 4, pieceSpec sh_plaitref06_Reach_4 es_plaitref06_Reach_4 (loop L_plaitref06_Reach_4)), (0, 13, pieceSpec sh_plaitref06_Reach_13 es_plaitref06_Reach_13 (loop L_plaitref06_Reach_13)), (0, 10, pieceSpec sh_plaitref06_Reach_10 es_plaitref06_Reach_10 (loop L_plaitref06_Reach_10)), (0, 8, pieceSpec sh_plaitref06_Reach_8 es_plaitref06_Reach_8 (loop L_plaitref06_Reach_8))], nt := 70, pin := 0, nr := true, ys := [] }
theorem L_plaitref06_Reach_22_ok : CSound Try.prog ⟨70, 0, true⟩ (.loop (loopOf 22 Try.f27)) (pieceSpec sh_plaitref06_Reach_22 es_plaitref06_Reach_22 (loop L_plaitref06_Reach_22)) :=
  loop_sound (C := cx_plaitref06_Reach_22) (ctxOK mixed tbl_ok rfl ⟨F_plaitref06_starts_ok, trivial⟩ trivial) (SumOK.of ⟨(pieces_none (by kernel_rfl)), (pieces_none (by kernel_rfl)), (pieces_none (by kernel_rfl)), (pieces_none (by kernel_rfl)), trivial⟩) sh_plaitref06_Reach_22 es_plaitref06_Reach_22 rfl rfl L_plaitref06_Reach_22 (fun x => by kernel_rfl)
abbrev si_plaitref06_Reach : Shape := { sl := [(0, (.hole (.pair (.slice (.int .i64)) (.pair (.int .i64) (.pair (.int .i64) (.pair (.int .i64) (.pair (.slice (.pair (.slice (.pair .bool (.int .i64))) .bool)) (.slice (.slice (.pair (.int .i64) (.pair (.int .i64) (.int .i64))))))))))))], bl := [], ts := [(.pair (.slice (.int .i64)) (.pair (.int .i64) (.pair (.int .i64) (.pair (.int .i64) (.pair (.slice (.pair (.slice (.pair .bool (.int .i64))) .bool)) (.slice (.slice (.pair (.int .i64) (.pair (.int .i64) (.int .i64))))))))))], pin := 0 }
abbrev so_plaitref06_Reach : Shape := { sl := [(0, (.hole (.slice (.int .i64))))], bl := [], ts := [(.slice (.int .i64))], pin := 0 }
noncomputable def F_plaitref06_Reach (x : ((List (Int) × (Int × (Int × (Int × (List ((List ((Bool × Int)) × Bool)) × List (List ((Int × (Int × Int))))))))))) : Option (List (Int)) :=
  ((loop L_plaitref06_Reach_4 ((((List.length x.2.2.2.2.2) : Nat) : Int), ((0 : Int), (x, ([] : List Bool)))))).bind fun r9 =>
  ((loop L_plaitref06_Reach_8 ((((List.length r9.1.2.2.2.2.2) : Nat) : Int), ((0 : Int), (r9.1, r9.2))))).bind fun r10 =>
  ((loop L_plaitref06_Reach_22 ((((List.length r10) : Nat) : Int), ((0 : Int), (([] : List Int), r10))))).bind fun r11 =>
  some r11
noncomputable def cx_plaitref06_Reach : Ctx := { tb := mkTb T2.tbl, fx := [(47, [], Spec.shp si_plaitref06_starts so_plaitref06_starts F_plaitref06_starts)], sum := [(0, 4, pieceSpec sh_plaitref06_Reach_4 es_plaitref06_Reach_4 (loop L_plaitref06_Reach_4)), (0, 13, pieceSpec sh_plaitref06_Reach_13 es_plaitref06_Reach_13 (loop L_plaitref06_Reach_13)), (0, 10, pieceSpec sh_plaitref06_Reach_10 es_plaitref06_Reach_10 (loop L_plaitref06_Reach_10)), (0, 8, pieceSpec sh_plaitref06_Reach_8 es_plaitref06_Reach_8 (loop L_plaitref06_Reach_8)), (0, 22, pieceSpec sh_plaitref06_Reach_22 es_plaitref06_Reach_22 (loop L_plaitref06_Reach_22))], nt := 70, pin := 0, nr := true, ys := [] }
theorem F_plaitref06_Reach_ok : Sound Try.prog 27 (Spec.shp si_plaitref06_Reach so_plaitref06_Reach F_plaitref06_Reach) :=
  Sound.shp (C := cx_plaitref06_Reach) (fn := Try.f27) (by kernel_rfl) (c := bodyOf Try.f27) (by kernel_rfl) (by decide) (ctxOK mixed tbl_ok rfl ⟨F_plaitref06_starts_ok, trivial⟩ trivial) (SumOK.of ⟨(pieces_one (d := .loop (loopOf 4 Try.f27)) (by kernel_rfl) L_plaitref06_Reach_4_ok), (pieces_one (d := .loop (loopOf 13 Try.f27)) (by kernel_rfl) L_plaitref06_Reach_13_ok), (pieces_one (d := .loop (loopOf 10 Try.f27)) (by kernel_rfl) L_plaitref06_Reach_10_ok), (pieces_one (d := .loop (loopOf 8 Try.f27)) (by kernel_rfl) L_plaitref06_Reach_8_ok), (pieces_one (d := .loop (loopOf 22 Try.f27)) (by kernel_rfl) L_plaitref06_Reach_22_ok), trivial⟩) (by kernel_rfl) si_plaitref06_Reach so_plaitref06_Reach rfl (by decide) (by decide) rfl (by decide) rfl F_plaitref06_Reach (fun x => by kernel_rfl)
abbrev sh_plaitref01_Rows_5 : Shape := { sl := [(0, (.hole (.slice (.int .i64)))), (1, (.hole (.slice (.int .i64)))), (12, (.hole (.int .i64))), (13, (.hole (.int .i64)))], bl := [], ts := [(.slice (.int .i64)), (.slice (.int .i64)), (.int .i64), (.int .i64)], pin := 0 }
abbrev es_plaitref01_Rows_5 : List (ETag × Shape) := [(.ret, { sl := [(4, (.hole .bool))], bl := [], ts := [.bool], pin := 0 }), (.exit 0, { sl := [], bl := [], ts := [], pin := 0 })]
noncomputable def L_plaitref01_Rows_5 (x : (List (Int) × List (Int) × Int × Int)) : Option ((List (Int) × List (Int) × Int × Int) ⊕ ((Bool) ⊕ Unit)) :=
  bif (decide (x.2.2.2 < x.2.2.1)) then
    bif (Go.Proofs.Ytagjaiammndjoaa.VX.inb x.2.2.2 (List.length x.1)) then
      bif (Go.Proofs.Ytagjaiammndjoaa.VX.inb x.2.2.2 (List.length x.2.1)) then
        bif ((Go.Proofs.Ytagjaiammndjoaa.VX.getAt (0 : Int) x.1 (Go.Proofs.Ytagjaiammndjoaa.VX.toN x.2.2.2)) != (Go.Proofs.Ytagjaiammndjoaa.VX.getAt (0 : Int) x.2.1 (Go.Proofs.Ytagjaiammndjoaa.VX.toN x.2.2.2))) then
          some (.inr (.inl false))
        else
          some (.inl (x.1, (x.2.1, (x.2.2.1, (Go.IntKind.wrap Go.IntKind.i64 (x.2.2.2 + (1 : Int)))))))
      else
        none
    else
      none
  else
    some (.inr (.inr ()))
noncomputable def cx_plaitref01_Rows_5 : Ctx := { tb := mkTb T2.tbl, fx := [], sum := [], nt := 26, pin := 0, nr := true, ys := [] }
theorem L_plaitref01_Rows_5_ok : CSound Try.prog ⟨26, 0, true⟩ (.loop (loopOf 5 Try.f26)) (pieceSpec sh_plaitref01_Rows_5 es_plaitref01_Rows_5 (loop L_plaitref01_Rows_5)) :=
  loop_sound (C := cx_plaitref01_Rows_5) (ctxOK mixed tbl_ok rfl trivial trivial) (SumOK.of trivial) sh_plaitref01_Rows_5 es_plaitref01_Rows_5 rfl rfl L_plaitref01_Rows_5 (fun x => by kernel_rfl)
abbrev si_plaitref01_Rows : Shape := { sl := [(0, (.hole (.slice (.int .i64)))), (1, (.hole (.slice (.int .i64))))], bl := [], ts := [(.slice (.int .i64)), (.slice (.int .i64))], pin := 0 }
abbrev so_plaitref01_Rows : Shape := { sl := [(0, (.hole .bool))], bl := [], ts := [.bool], pin := 0 }
noncomputable def F_plaitref01_Rows (x : (List (Int) × List (Int))) : Option (Bool) :=
  bif ((((List.length x.1) : Nat) : Int) != (((List.length x.2) : Nat) : Int)) then
    some false
  else
    ((loop L_plaitref01_Rows_5 (x.1, (x.2, ((((List.length x.1) : Nat) : Int), (0 : Int)))))).bind fun r10 =>
    match r10 with
    | .inl y11 =>
      some y11
    | .inr y11 =>
      some true
noncomputable def cx_plaitref01_Rows : Ctx := { tb := mkTb T2.tbl, fx := [], sum := [(0, 5, pieceSpec sh_plaitref01_Rows_5 es_plaitref01_Rows_5 (loop L_plaitref01_Rows_5))], nt := 26, pin := 0, nr := true, ys := [] }
theorem F_plaitref01_Rows_ok : Sound Try.prog 26 (Spec.shp si_plaitref01_Rows so_plaitref01_Rows F_plaitref01_Rows) :=
  Sound.shp (C := cx_plaitref01_Rows) (fn := Try.f26) (by kernel_rfl) (c := bodyOf Try.f26) (by kernel_rfl) (by decide) (ctxOK mixed tbl_ok rfl trivial trivial) (SumOK.of ⟨(pieces_one (d := .loop (loopOf 5 Try.f26)) (by kernel_rfl) L_plaitref01_Rows_5_ok), trivial⟩) (by kernel_rfl) si_plaitref01_Rows so_plaitref01_Rows rfl (by decide) (by decide) rfl (by decide) rfl F_plaitref01_Rows (fun x => by kernel_rfl)
abbrev sh_plaitref06_Count_7 : Shape := { sl := [(1, (.hole (.int .i64))), (5, (.hole (.int .i64))), (11, (.hole (.slice (.slice (.pair (.int .i64) (.pair (.int .i64) (.int .i64))))))), (12, (.hole (.int .i64))), (13, (.hole (.int .i64))), (17, (.hole (.slice (.pair (.int .i64) (.pair (.int .i64) (.int .i64)))))), (18, (.hole (.int .i64))), (19, (.hole (.int .i64)))], bl := [], ts := [(.int .i64), (.int .i64), (.slice (.slice (.pair (.int .i64) (.pair (.int .i64) (.int .i64))))), (.int .i64), (.int .i64), (.slice (.pair (.int .i64) (.pair (.int .i64) (.int .i64)))), (.int .i64), (.int .i64)], pin := 0 }
abbrev es_plaitref06_Count_7 : List (ETag × Shape) := [(.exit 2, { sl := [(1, (.hole (.int .i64))), (5, (.hole (.int .i64))), (11, (.hole (.slice (.slice (.pair (.int .i64) (.pair (.int .i64) (.int .i64))))))), (12, (.hole (.int .i64))), (13, (.hole (.int .i64)))], bl := [], ts := [(.int .i64), (.int .i64), (.slice (.slice (.pair (.int .i64) (.pair (.int .i64) (.int .i64))))), (.int .i64), (.int .i64)], pin := 0 })]
noncomputable def L_plaitref06_Count_7 (x : (Int × Int × List (List ((Int × (Int × Int)))) × Int × Int × List ((Int × (Int × Int))) × Int × Int)) : Option ((Int × Int × List (List ((Int × (Int × Int)))) × Int × Int × List ((Int × (Int × Int))) × Int × Int) ⊕ ((Int × Int × List (List ((Int × (Int × Int)))) × Int × Int))) :=
  bif (decide (x.2.2.2.2.2.2.2 < x.2.2.2.2.2.2.1)) then
    bif (Go.Proofs.Ytagjaiammndjoaa.VX.inb x.2.2.2.2.2.2.2 (List.length x.2.2.2.2.2.1)) then
      bif ((Go.Proofs.Ytagjaiammndjoaa.VX.getAt ((0 : Int), ((0 : Int), (0 : Int))) x.2.2.2.2.2.1 (Go.Proofs.Ytagjaiammndjoaa.VX.toN x.2.2.2.2.2.2.2)).1 == x.1) then
        some (.inl (x.1, ((Go.IntKind.wrap Go.IntKind.i64 (x.2.1 + (1 : Int))), (x.2.2.1, (x.2.2.2.1, (x.2.2.2.2.1, (x.2.2.2.2.2.1, (x.2.2.2.2.2.2.1, (Go.IntKind.wrap Go.IntKind.i64 (x.2.2.2.2.2.2.2 + (1 : Int)))))))))))
      else
        some (.inl (x.1, (x.2.1, (x.2.2.1, (x.2.2.2.1, (x.2.2.2.2.1, (x.2.2.2.2.2.1, (x.2.2.2.2.2.2.1, (Go.IntKind.wrap Go.IntKind.i64 (x.2.2.2.2.2.2.2 + (1 : Int)))))))))))
    else
      none
  else
    some (.inr (x.1, (x.2.1, (x.2.2.1, (x.2.2.2.1, x.2.2.2.2.1)))))
noncomputable def cx_plaitref06_Count_7 : Ctx := { tb := mkTb T2.tbl, fx := [], sum := [], nt := 32, pin := 0, nr := true, ys := [] }
theorem L_plaitref06_Count_7_ok : CSound Try.prog ⟨32, 0, true⟩ (.loop (loopOf 7 Try.f28)) (pieceSpec sh_plaitref06_Count_7 es_plaitref06_Count_7 (loop L_plaitref06_Count_7)) :=
  loop_sound (C := cx_plaitref06_Count_7) (ctxOK mixed tbl_ok rfl trivial trivial) (SumOK.of trivial) sh_plaitref06_Count_7 es_plaitref06_Count_7 rfl rfl L_plaitref06_Count_7 (fun x => by kernel_rfl)
abbrev sh_plaitref06_Count_4 : Shape := { sl := [(1, (.hole (.int .i64))), (5, (.hole (.int .i64))), (11, (.hole (.slice (.slice (.pair (.int .i64) (.pair (.int .i64) (.int .i64))))))), (12, (.hole (.int .i64))), (13, (.hole (.int .i64)))], bl := [], ts := [(.int .i64), (.int .i64), (.slice (.slice (.pair (.int .i64) (.pair (.int .i64) (.int .i64))))), (.int .i64), (.int .i64)], pin := 0 }
abbrev es_plaitref06_Count_4 : List (ETag × Shape) := [(.exit 0, { sl := [(5, (.hole (.int .i64)))], bl := [], ts := [(.int .i64)], pin := 0 })]
noncomputable def L_plaitref06_Count_4 (x : (Int × Int × List (List ((Int × (Int × Int)))) × Int × Int)) : Option ((Int × Int × List (List ((Int × (Int × Int)))) × Int × Int) ⊕ ((Int))) :=
  bif (decide (x.2.2.2.2 < x.2.2.2.1)) then
    bif (Go.Proofs.Ytagjaiammndjoaa.VX.inb x.2.2.2.2 (List.length x.2.2.1)) then
      ((loop L_plaitref06_Count_7 (x.1, (x.2.1, (x.2.2.1, (x.2.2.2.1, (x.2.2.2.2, ((Go.Proofs.Ytagjaiammndjoaa.VX.getAt ([] : List (Int × (Int × Int))) x.2.2.1 (Go.Proofs.Ytagjaiammndjoaa.VX.toN x.2.2.2.2)), ((((List.length (Go.Proofs.Ytagjaiammndjoaa.VX.getAt ([] : List (Int × (Int × Int))) x.2.2.1 (Go.Proofs.Ytagjaiammndjoaa.VX.toN x.2.2.2.2))) : Nat) : Int), (0 : Int)))))))))).bind fun r12 =>
      some (.inl (r12.1, (r12.2.1, (r12.2.2.1, (r12.2.2.2.1, (Go.IntKind.wrap Go.IntKind.i64 (r12.2.2.2.2 + (1 : Int))))))))
    else
      none
  else
    some (.inr x.2.1)
noncomputable def cx_plaitref06_Count_4 : Ctx := { tb := mkTb T2.tbl, fx := [], sum := [(0, 7, pieceSpec sh_plaitref06_Count_7 es_plaitref06_Count_7 (loop L_plaitref06_Count_7))], nt := 32, pin := 0, nr := true, ys := [] }
theorem L_plaitref06_Count_4_ok : CSound Try.prog ⟨32, 0, true⟩ (.loop (loopOf 4 Try.f28)) (pieceSpec sh_plaitref06_Count_4 es_plaitref06_Count_4 (loop L_plaitref06_Count_4)) :=
  loop_sound (C := cx_plaitref06_Count_4) (ctxOK mixed tbl_ok rfl trivial trivial) (SumOK.of ⟨(pieces_one (d := .loop (loopOf 7 Try.f28)) (by kernel_rfl) L_plaitref06_Count_7_ok), trivial⟩) sh_plaitref06_Count_4 es_plaitref06_Count_4 rfl rfl L_plaitref06_Count_4 (fun x => by kernel_rfl)
abbrev si_plaitref06_Count : Shape := { sl := [(0, (.hole (.pair (.slice (.int .i64)) (.pair (.int .i64) (.pair (.int .i64) (.pair (.int .i64) (.pair (.slice (.pair (.slice (.pair .bool (.int .i64))) .bool)) (.slice (.slice (.pair (.int .i64) (.pair (.int .i64) (.int .i64)))))))))))), (1, (.hole (.int .i64)))], bl := [], ts := [(.pair (.slice (.int .i64)) (.pair (.int .i64) (.pair (.int .i64) (.pair (.int .i64) (.pair (.slice (.pair (.slice (.pair .bool (.int .i64))) .bool)) (.slice (.slice (.pair (.int .i64) (.pair (.int .i64) (.int .i64)))))))))), (.int .i64)], pin := 0 }
abbrev so_plaitref06_Count : Shape := { sl := [(0, (.hole (.int .i64)))], bl := [], ts := [(.int .i64)], pin := 0 }
noncomputable def F_plaitref06_Count (x : ((List (Int) × (Int × (Int × (Int × (List ((List ((Bool × Int)) × Bool)) × List (List ((Int × (Int × Int))))))))) × Int)) : Option (Int) :=
  ((loop L_plaitref06_Count_4 (x.2, ((0 : Int), (x.1.2.2.2.2.2, ((((List.length x.1.2.2.2.2.2) : Nat) : Int), (0 : Int))))))).bind fun r11 =>
  some r11
noncomputable def cx_plaitref06_Count : Ctx := { tb := mkTb T2.tbl, fx := [], sum := [(0, 7, pieceSpec sh_plaitref06_Count_7 es_plaitref06_Count_7 (loop L_plaitref06_Count_7)), (0, 4, pieceSpec sh_plaitref06_Count_4 es_plaitref06_Count_4 (loop L_plaitref06_Count_4))], nt := 32, pin := 0, nr := true, ys := [] }
theorem F_plaitref06_Count_ok : Sound Try.prog 28 (Spec.shp si_plaitref06_Count so_plaitref06_Count F_plaitref06_Count) :=
  Sound.shp (C := cx_plaitref06_Count) (fn := Try.f28) (by kernel_rfl) (c := bodyOf Try.f28) (by kernel_rfl) (by decide) (ctxOK mixed tbl_ok rfl trivial trivial) (SumOK.of ⟨(pieces_one (d := .loop (loopOf 7 Try.f28)) (by kernel_rfl) L_plaitref06_Count_7_ok), (pieces_one (d := .loop (loopOf 4 Try.f28)) (by kernel_rfl) L_plaitref06_Count_4_ok), trivial⟩) (by kernel_rfl) si_plaitref06_Count so_plaitref06_Count rfl (by decide) (by decide) rfl (by decide) rfl F_plaitref06_Count (fun x => by kernel_rfl)
noncomputable def F_plaitlaw06_ProgTells (x : ((List (Int) × (Int × (Int × (Int × (List ((List ((Bool × Int)) × Bool)) × List (List ((Int × (Int × Int))))))))) × Int)) : Option (Bool) :=
  ((F_plaitlaw06_few x.1)).bind fun r1 =>
  ((F_prog_Wrong r1)).bind fun r2 =>
  ((F_prog_Reach r1)).bind fun r3 =>
  ((F_prog_Count (r1, x.2))).bind fun r4 =>
  ((F_plaitref06_Wrong r1)).bind fun r5 =>
  bif (r2.1 != r5.1) then
    some false
  else
    bif (r2.2.1 != r5.2.1) then
      some false
    else
      bif (r2.2.2 != r5.2.2) then
        some false
      else
        ((F_prog_Right r1)).bind fun r6 =>
        bif (Bool.not (r6 == (r5.2.2 == (0 : Int)))) then
          some false
        else
          ((F_plaitlaw06_alive ())).bind fun r7 =>
          bif (Bool.not r7) then
            some false
          else
            bif (r5.2.2 != (0 : Int)) then
              bif (r3.2 == (1 : Int)) then
                bif (r4.2 == (1 : Int)) then
                  bif ((((List.length r3.1) : Nat) : Int) == (0 : Int)) then
                    some (r4.1 == (0 : Int))
                  else
                    some false
                else
                  some false
              else
                some false
            else
              bif (r3.2 != (0 : Int)) then
                some false
              else
                ((F_plaitref06_Reach r1)).bind fun r8 =>
                ((F_plaitref01_Rows (r3.1, r8))).bind fun r9 =>
                bif (Bool.not r9) then
                  some false
                else
                  bif (decide (x.2 < (0 : Int))) then
                    bif (r4.2 == (11 : Int)) then
                      some (r4.1 == (0 : Int))
                    else
                      some false
                  else
                    bif (decide (x.2 > (13 : Int))) then
                      bif (r4.2 == (11 : Int)) then
                        some (r4.1 == (0 : Int))
                      else
                        some false
                    else
                      bif (r4.2 == (0 : Int)) then
                        ((F_plaitref06_Count (r1, x.2))).bind fun r10 =>
                        some (r4.1 == r10)
                      else
                        some false
noncomputable def cx_plaitlaw06_ProgTells : Ctx := { tb := mkTb T2.tbl, fx := [(10, [], Spec.shp si_plaitlaw06_few so_plaitlaw06_few F_plaitlaw06_few), (23, [], Spec.shp si_prog_Wrong so_prog_Wrong F_prog_Wrong), (24, [], Spec.shp si_prog_Reach so_prog_Reach F_prog_Reach), (12, [], Spec.shp si_prog_Count so_prog_Count F_prog_Count), (25, [], Spec.shp si_plaitref06_Wrong so_plaitref06_Wrong F_plaitref06_Wrong), (11, [], Spec.shp si_prog_Right so_prog_Right F_prog_Right), (13, [], Spec.shp si_plaitlaw06_alive so_plaitlaw06_alive F_plaitlaw06_alive), (27, [], Spec.shp si_plaitref06_Reach so_plaitref06_Reach F_plaitref06_Reach), (26, [], Spec.shp si_plaitref01_Rows so_plaitref01_Rows F_plaitref01_Rows), (28, [], Spec.shp si_plaitref06_Count so_plaitref06_Count F_plaitref06_Count)], sum := [], nt := 111, pin := 0, nr := true, ys := [] }
theorem F_plaitlaw06_ProgTells_ok : Sound Try.prog 9 (Spec.pure [(.pair (.slice (.int .i64)) (.pair (.int .i64) (.pair (.int .i64) (.pair (.int .i64) (.pair (.slice (.pair (.slice (.pair .bool (.int .i64))) .bool)) (.slice (.slice (.pair (.int .i64) (.pair (.int .i64) (.int .i64)))))))))), (.int .i64)] [.bool] F_plaitlaw06_ProgTells) :=
  Sound.pure (C := cx_plaitlaw06_ProgTells) (fn := Try.f9) (by kernel_rfl) (c := bodyOf Try.f9) (by kernel_rfl) (by decide) (ctxOK mixed tbl_ok rfl ⟨F_plaitlaw06_few_ok, F_prog_Wrong_ok, F_prog_Reach_ok, F_prog_Count_ok, F_plaitref06_Wrong_ok, F_prog_Right_ok, F_plaitlaw06_alive_ok, F_plaitref06_Reach_ok, F_plaitref01_Rows_ok, F_plaitref06_Count_ok, trivial⟩) (SumOK.of trivial) (by kernel_rfl) rfl _ _ (by decide) _ (fun x => by kernel_rfl)


end Go.Proofs.Ytagjaiammndjoaa.VX.VxC_P
