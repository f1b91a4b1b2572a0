/- Laid for the law RunTells. -/
import Derived.Test.YthdlpkdojipfhaaGreatRunTellsF1
set_option linter.unusedVariables false
set_option maxRecDepth 100000
namespace Go.Proofs.YthdlpkdojipfhaaGreat.VX.VxM_M
open Go.Proofs Go.Proofs.YthdlpkdojipfhaaGreat.VX.T2
noncomputable section
abbrev Zr4:Shape:={ sl:=[(0,(.hole (.slice y4))),(1,(.hole (.slice y4)))],bl:=[],ts:=[(.slice y4),(.slice y4)],pin:=0 }
abbrev Zwh:Shape:={ sl:=sl_1,bl:=[],ts:=ts_1,pin:=0 }
def Z5h (x:(List (Int × Int) × List (Int × Int))):Option (Bool) :=
 bif ((((List.length x.1):Nat):Int) != (((List.length x.2):Nat):Int)) then
 some false
 else
 (loop Zcm (x.1,x.2,(((List.length x.1):Nat):Int),(0:Int))).bind fun r12 =>
 match r12 with
 | .inl y13 =>
 some y13
 | .inr y13 =>
 some true
abbrev Z11u:=Spec.shp Zr4 Zwh Z5h
def Zhq:Ctx:={ tb:=mkTb T2.tbl,fx:=[],sum:=[(0,5,Yay Znn Zm1 (loop Zcm))],nt:=26,pin:=0,nr:=true,ys:=[] }
theorem Z5i:Sound Tryz.prog 21 (Z11u) :=
 Sound.shp (C:=Zhq) (fn:=Tryz.f21) (by kernel_rfl) (c:=bodyOf Tryz.f21) (by kernel_rfl) (by decide) (ctxOK mixed tbl_ok rfl trivial trivial) (SumOK.of ⟨(Yb0 (d:=.loop (loopOf 5 Tryz.f21)) (by kernel_rfl) Zcn),trivial⟩) (by kernel_rfl) Zr4 Zwh rfl (by decide) (by decide) rfl (by decide) rfl Z5h (fun x=>by kernel_rfl)
abbrev Zri:Shape:={ sl:=sl_41,bl:=[],ts:=[y46,(.int .i64)],pin:=0 }
abbrev Zwv:Shape:={ sl:=sl_39,bl:=[],ts:=[y46],pin:=0 }
def Z69 (x:(T63 × Int)):Option (T63) :=
 bif (inb x.2 (List.length x.1.1.2.1)) then
 (Z6z (x.1,x.2,(IntKind.wrap .i64 ((getAt ((0:Int),(0:Int),(0:Int),false) x.1.1.2.1 (toN x.2)).2.1+(1:Int))))).bind fun r22 =>
 some r22
 else
 none
abbrev Z128:=Spec.shp Zri Zwv Z69
def Zia:Ctx:={ tb:=mkTb T2.tbl,fx:=[(51,[],Z12l)],sum:=[],nt:=16,pin:=0,nr:=true,ys:=[] }
theorem Z6a:Sound Tryz.prog 132 (Z128) :=
 Sound.shp (C:=Zia) (fn:=Tryz.f132) (by kernel_rfl) (c:=bodyOf Tryz.f132) (by kernel_rfl) (by decide) (ctxOK mixed tbl_ok rfl ⟨Z70,trivial⟩ trivial) (SumOK.of trivial) (by kernel_rfl) Zri Zwv rfl (by decide) (by decide) rfl (by decide) rfl Z69 (fun x=>by kernel_rfl)
abbrev Zqv:Shape:={ sl:=[],bl:=[],ts:=[],pin:=0 }
abbrev Zw8:Shape:={ sl:=sl_17,bl:=[],ts:=[y5],pin:=0 }
def Z4z (x:Unit):Option (T7) :=
 some ((Int.negSucc 0),(0:Int),(0:Int))
abbrev Z11l:=Spec.shp Zqv Zw8 Z4z
def Zhb:Ctx:={ tb:=mkTb T2.tbl,fx:=[],sum:=[],nt:=2,pin:=0,nr:=true,ys:=[] }
theorem Z50:Sound Tryz.prog 212 (Z11l) :=
 Sound.shp (C:=Zhb) (fn:=Tryz.f212) (by kernel_rfl) (c:=bodyOf Tryz.f212) (by kernel_rfl) (by decide) (ctxOK mixed tbl_ok rfl trivial trivial) (SumOK.of trivial) (by kernel_rfl) Zqv Zw8 rfl (by decide) (by decide) rfl (by decide) rfl Z4z (fun x=>by kernel_rfl)
abbrev Znh:Shape:={ sl:=[(0,(.hole (.int .i64))),(1,(.hole (.int .i64))),(2,(.hole (.int .i64))),(6,(.ptr 0 [])),(7,(.ptr 1 [])),(8,(.hole (.int .i64)))],bl:=bl_26,ts:=[(.int .i64),(.int .i64),(.int .i64),(.int .i64),(.int .i64),(.int .i64),(.int .i64),(.int .i64),(.int .i64),(.int .i64),y0],pin:=0 }
abbrev Zlv:List (ETag × Shape):=[(.exit 0,{ sl:=[(6,(.ptr 0 [])),(7,(.ptr 1 []))],bl:=bl_26,ts:=[(.int .i64),(.int .i64),(.int .i64),(.int .i64),(.int .i64),(.int .i64),y0],pin:=0 })]
def Zca (x:(Int × Int × Int × Int × Int × Int × Int × Int × Int × Int × List Int)):Option ((Int × Int × Int × Int × Int × Int × Int × Int × Int × Int × List Int) ⊕ (Int × Int × Int × Int × Int × Int × List Int)) :=
 bif (decide (x.2.2.2.1 < x.1)) then
 bif (decide ((IntKind.wrap .i64 (x.2.1+x.2.2.2.1)) < x.2.2.1)) then
 bif (fits ((List.length x.2.2.2.2.2.2.2.2.2.2)+(List.length ((IntKind.wrap .i64 (x.2.1+x.2.2.2.1)) :: ([]:List Int))))) then
 some (.inl (x.1,x.2.1,x.2.2.1,(IntKind.wrap .i64 (x.2.2.2.1+(1:Int))),x.2.2.2.2.1,x.2.2.2.2.2.1,x.2.2.2.2.2.2.1,x.2.2.2.2.2.2.2.1,x.2.2.2.2.2.2.2.2.1,(IntKind.wrap .i64 (x.2.2.2.2.2.2.2.2.2.1+(1:Int))),(x.2.2.2.2.2.2.2.2.2.2++((IntKind.wrap .i64 (x.2.1+x.2.2.2.1)) :: ([]:List Int)))))
 else
 none
 else
 bif (fits ((List.length x.2.2.2.2.2.2.2.2.2.2)+(List.length ((0:Int) :: ([]:List Int))))) then
 some (.inl (x.1,x.2.1,x.2.2.1,(IntKind.wrap .i64 (x.2.2.2.1+(1:Int))),x.2.2.2.2.1,x.2.2.2.2.2.1,x.2.2.2.2.2.2.1,x.2.2.2.2.2.2.2.1,x.2.2.2.2.2.2.2.2.1,x.2.2.2.2.2.2.2.2.2.1,(x.2.2.2.2.2.2.2.2.2.2++((0:Int) :: ([]:List Int)))))
 else
 none
 else
 some (.inr (x.2.2.2.2.1,x.2.2.2.2.2.1,x.2.2.2.2.2.2.1,x.2.2.2.2.2.2.2.1,x.2.2.2.2.2.2.2.2.1,x.2.2.2.2.2.2.2.2.2.1,x.2.2.2.2.2.2.2.2.2.2))
def Zhd:Ctx:={ tb:=mkTb T2.tbl,fx:=[],sum:=[],nt:=36,pin:=0,nr:=true,ys:=[] }
theorem Zcb:CSound Tryz.prog ⟨36,0,true⟩ (.loop (loopOf 4 Tryz.f236)) (Yay Znh Zlv (loop Zca)) :=
 Y8c (C:=Zhd) (ctxOK mixed tbl_ok rfl trivial trivial) (SumOK.of trivial) Znh Zlv rfl rfl Zca (fun x=>by kernel_rfl)
abbrev Zqw:Shape:={ sl:=sl_0,bl:=[],ts:=ts_0,pin:=0 }
abbrev Zw9:Shape:={ sl:=[(0,(.hole y21))],bl:=[],ts:=[y21],pin:=0 }
def Z51 (x:T4):Option (T16) :=
 (loop Zca (x.1,x.2.1,x.2.2,(0:Int),(0:Int),(0:Int),(0:Int),x.1,(0:Int),(0:Int),([]:List Int))).bind fun r30 =>
 some (r30.2.2.2.1,r30.2.2.2.2.1,r30.2.2.2.2.2.2,r30.2.2.2.2.2.1)
abbrev Z11m:=Spec.shp Zqw Zw9 Z51
def Zhc:Ctx:={ tb:=mkTb T2.tbl,fx:=[],sum:=[(0,4,Yay Znh Zlv (loop Zca))],nt:=36,pin:=0,nr:=true,ys:=[] }
theorem Z52:Sound Tryz.prog 236 (Z11m) :=
 Sound.shp (C:=Zhc) (fn:=Tryz.f236) (by kernel_rfl) (c:=bodyOf Tryz.f236) (by kernel_rfl) (by decide) (ctxOK mixed tbl_ok rfl trivial trivial) (SumOK.of ⟨(Yb0 (d:=.loop (loopOf 4 Tryz.f236)) (by kernel_rfl) Zcb),trivial⟩) (by kernel_rfl) Zqw Zw9 rfl (by decide) (by decide) rfl (by decide) rfl Z51 (fun x=>by kernel_rfl)
abbrev Zqu:Shape:={ sl:=[(0,(.hole y40)),(1,(.hole (.int .i64))),(2,(.hole (.int .i64)))],bl:=[],ts:=[y40,(.int .i64),(.int .i64)],pin:=0 }
abbrev Zw7:Shape:={ sl:=[(0,(.hole y40))],bl:=[],ts:=[y40],pin:=0 }
def Z4x (x:((Int × T40) × Int × Int)):Option T43 :=
 (Z51 ((Max.max x.1.1 (0:Int)),(IntKind.wrap .i64 (x.1.2.2.2.2.1+x.2.2)),(IntKind.wrap .i64 (x.1.2.2.2.1+x.2.1)))).bind fun r29 =>
 some (x.1.1,x.1.2.1,r29,(IntKind.wrap .i64 (x.1.2.2.2.1+x.2.1)),(IntKind.wrap .i64 (x.1.2.2.2.2.1+x.2.2)),x.1.2.2.2.2.2)
abbrev Z11k:=Spec.shp Zqu Zw7 Z4x
def Zha:Ctx:={ tb:=mkTb T2.tbl,fx:=[(236,[],Z11m)],sum:=[],nt:=27,pin:=0,nr:=true,ys:=[] }
theorem Z4y:Sound Tryz.prog 213 (Z11k) :=
 Sound.shp (C:=Zha) (fn:=Tryz.f213) (by kernel_rfl) (c:=bodyOf Tryz.f213) (by kernel_rfl) (by decide) (ctxOK mixed tbl_ok rfl ⟨Z52,trivial⟩ trivial) (SumOK.of trivial) (by kernel_rfl) Zqu Zw7 rfl (by decide) (by decide) rfl (by decide) rfl Z4x (fun x=>by kernel_rfl)
abbrev Zn8:Shape:={ sl:=[(1,(.hole (.int .i64))),(5,(.sl 0)),(9,(.hole (.slice y5))),(10,(.hole (.int .i64))),(11,(.hole (.int .i64)))],bl:=[.row y5],ts:=[(.int .i64),(.slice y5),(.int .i64),(.int .i64),(.slice y5)],pin:=0 }
abbrev Zlm:List (ETag × Shape):=[(.exit 0,{ sl:=[(5,(.sl 0))],bl:=[.row y5],ts:=[(.slice y5)],pin:=0 })]
def Zbr (x:(Int × List (T7) × Int × Int × List (T7))):Option ((Int × List (T7) × Int × Int × List (T7)) ⊕ (List (T7))) :=
 bif (decide (x.2.2.2.1 < x.2.2.1)) then
 bif (inb x.2.2.2.1 (List.length x.2.1)) then
 bif ((getAt ((0:Int),(0:Int),(0:Int)) x.2.1 (toN x.2.2.2.1)).1 != x.1) then
 bif (fits ((List.length x.2.2.2.2)+(List.length ((getAt ((0:Int),(0:Int),(0:Int)) x.2.1 (toN x.2.2.2.1)) :: ([]:List T7))))) then
 some (.inl (x.1,x.2.1,x.2.2.1,(IntKind.wrap .i64 (x.2.2.2.1+(1:Int))),(x.2.2.2.2++((getAt ((0:Int),(0:Int),(0:Int)) x.2.1 (toN x.2.2.2.1)) :: ([]:List T7)))))
 else
 none
 else
 some (.inl (x.1,x.2.1,x.2.2.1,(IntKind.wrap .i64 (x.2.2.2.1+(1:Int))),x.2.2.2.2))
 else
 none
 else
 some (.inr x.2.2.2.2)
def Zgm:Ctx:={ tb:=mkTb T2.tbl,fx:=[],sum:=[],nt:=25,pin:=0,nr:=true,ys:=[] }
theorem Zbs:CSound Tryz.prog ⟨25,0,true⟩ (.loop (loopOf 4 Tryz.f179)) (Yay Zn8 Zlm (loop Zbr)) :=
 Y8c (C:=Zgm) (ctxOK mixed tbl_ok rfl trivial trivial) (SumOK.of trivial) Zn8 Zlm rfl rfl Zbr (fun x=>by kernel_rfl)
abbrev Zqe:Shape:={ sl:=sl_23,bl:=[],ts:=ts_12,pin:=0 }
abbrev Zvr:Shape:={ sl:=sl_18,bl:=[],ts:=[(.slice y5)],pin:=0 }
def Z40 (x:T15):Option (List (T7)) :=
 (loop Zbr (x.2,x.1,(((List.length x.1):Nat):Int),(0:Int),([]:List T7))).bind fun r30 =>
 some r30
abbrev Z114:=Spec.shp Zqe Zvr Z40
def Zgl:Ctx:={ tb:=mkTb T2.tbl,fx:=[],sum:=[(0,4,Yay Zn8 Zlm (loop Zbr))],nt:=25,pin:=0,nr:=true,ys:=[] }
theorem Z41:Sound Tryz.prog 179 (Z114) :=
 Sound.shp (C:=Zgl) (fn:=Tryz.f179) (by kernel_rfl) (c:=bodyOf Tryz.f179) (by kernel_rfl) (by decide) (ctxOK mixed tbl_ok rfl trivial trivial) (SumOK.of ⟨(Yb0 (d:=.loop (loopOf 4 Tryz.f179)) (by kernel_rfl) Zbs),trivial⟩) (by kernel_rfl) Zqe Zvr rfl (by decide) (by decide) rfl (by decide) rfl Z40 (fun x=>by kernel_rfl)
abbrev Zqo:Shape:={ sl:=sl_13,bl:=[],ts:=[y40,(.int .i64)],pin:=0 }
abbrev Zw1:Shape:={ sl:=[(0,(.hole y40))],bl:=[],ts:=[y40],pin:=0 }
def Z4l (x:T46):Option T43 :=
 (Z40 (x.1.2.2.2.2.2.1,x.2)).bind fun r29 =>
 (Z40 (x.1.2.2.2.2.2.2,x.2)).bind fun r30 =>
 some (x.1.1,x.1.2.1,x.1.2.2.1,x.1.2.2.2.1,x.1.2.2.2.2.1,r29,r30)
abbrev Z11e:=Spec.shp Zqo Zw1 Z4l
def Zh3:Ctx:={ tb:=mkTb T2.tbl,fx:=[(179,[],Z114)],sum:=[],nt:=16,pin:=0,nr:=true,ys:=[] }
theorem Z4m:Sound Tryz.prog 214 (Z11e) :=
 Sound.shp (C:=Zh3) (fn:=Tryz.f214) (by kernel_rfl) (c:=bodyOf Tryz.f214) (by kernel_rfl) (by decide) (ctxOK mixed tbl_ok rfl ⟨Z41,trivial⟩ trivial) (SumOK.of trivial) (by kernel_rfl) Zqo Zw1 rfl (by decide) (by decide) rfl (by decide) rfl Z4l (fun x=>by kernel_rfl)
abbrev Zna:Shape:={ sl:=[(1,(.hole (.int .i64))),(2,(.hole (.int .i64))),(9,(.hole (.slice y5))),(10,(.hole (.int .i64))),(11,(.hole (.int .i64)))],bl:=[],ts:=[(.int .i64),(.int .i64),(.slice y5),(.int .i64),(.int .i64)],pin:=0 }
abbrev Zlo:List (ETag × Shape):=[(.ret,{ sl:=[(6,(.hole .bool))],bl:=[],ts:=ts_1,pin:=0 }),(.exit 0,{ sl:=[],bl:=[],ts:=[],pin:=0 })]
def Zbv (x:(Int × Int × List (T7) × Int × Int)):Option ((Int × Int × List (T7) × Int × Int) ⊕ ((Bool) ⊕ Unit)) :=
 bif (decide (x.2.2.2.2 < x.2.2.2.1)) then
 bif (inb x.2.2.2.2 (List.length x.2.2.1)) then
 bif ((getAt ((0:Int),(0:Int),(0:Int)) x.2.2.1 (toN x.2.2.2.2)).1 == x.1) then
 bif ((getAt ((0:Int),(0:Int),(0:Int)) x.2.2.1 (toN x.2.2.2.2)).2.1 == x.2.1) then
 some (.inr (.inl true))
 else
 some (.inl (x.1,x.2.1,x.2.2.1,x.2.2.2.1,(IntKind.wrap .i64 (x.2.2.2.2+(1:Int)))))
 else
 some (.inl (x.1,x.2.1,x.2.2.1,x.2.2.2.1,(IntKind.wrap .i64 (x.2.2.2.2+(1:Int)))))
 else
 none
 else
 some (.inr (.inr ()))
def Zgq:Ctx:={ tb:=mkTb T2.tbl,fx:=[],sum:=[],nt:=26,pin:=0,nr:=true,ys:=[] }
theorem Zbw:CSound Tryz.prog ⟨26,0,true⟩ (.loop (loopOf 3 Tryz.f237)) (Yay Zna Zlo (loop Zbv)) :=
 Y8c (C:=Zgq) (ctxOK mixed tbl_ok rfl trivial trivial) (SumOK.of trivial) Zna Zlo rfl rfl Zbv (fun x=>by kernel_rfl)
abbrev Zqg:Shape:={ sl:=[(0,(.hole (.slice y5))),(1,(.hole (.int .i64))),(2,(.hole (.int .i64)))],bl:=[],ts:=[(.slice y5),(.int .i64),(.int .i64)],pin:=0 }
abbrev Zvt:Shape:={ sl:=sl_1,bl:=[],ts:=ts_1,pin:=0 }
def Z44 (x:(List (T7) × Int × Int)):Option (Bool) :=
 (loop Zbv (x.2.1,x.2.2,x.1,(((List.length x.1):Nat):Int),(0:Int))).bind fun r30 =>
 match r30 with
 | .inl y31 =>
 some y31
 | .inr y31 =>
 some false
abbrev Z116:=Spec.shp Zqg Zvt Z44
def Zgp:Ctx:={ tb:=mkTb T2.tbl,fx:=[],sum:=[(0,3,Yay Zna Zlo (loop Zbv))],nt:=26,pin:=0,nr:=true,ys:=[] }
theorem Z45:Sound Tryz.prog 237 (Z116) :=
 Sound.shp (C:=Zgp) (fn:=Tryz.f237) (by kernel_rfl) (c:=bodyOf Tryz.f237) (by kernel_rfl) (by decide) (ctxOK mixed tbl_ok rfl trivial trivial) (SumOK.of ⟨(Yb0 (d:=.loop (loopOf 3 Tryz.f237)) (by kernel_rfl) Zbw),trivial⟩) (by kernel_rfl) Zqg Zvt rfl (by decide) (by decide) rfl (by decide) rfl Z44 (fun x=>by kernel_rfl)
abbrev Zqq:Shape:={ sl:=[(0,(.hole (.slice y5))),(1,(.hole y5))],bl:=[],ts:=[(.slice y5),y5],pin:=0 }
abbrev Zw3:Shape:={ sl:=sl_23,bl:=[],ts:=ts_12,pin:=0 }
def Z4p (x:(List (T7) × T7)):Option T15 :=
 (Z44 (x.1,x.2.1,x.2.2.1)).bind fun r29 =>
 bif r29 then
 some (([]:List T7),(7:Int))
 else
 bif ((((List.length x.1):Nat):Int) == (64:Int)) then
 some (([]:List T7),(5:Int))
 else
 bif (fits ((List.length ([]:List T7))+(List.length x.1))) then
 bif (fits ((List.length (([]:List T7)++x.1))+(List.length (x.2 :: ([]:List T7))))) then
 some (((([]:List T7)++x.1)++(x.2 :: ([]:List T7))),(0:Int))
 else
 none
 else
 none
abbrev Z11g:=Spec.shp Zqq Zw3 Z4p
def Zh6:Ctx:={ tb:=mkTb T2.tbl,fx:=[(237,[],Z116)],sum:=[],nt:=24,pin:=0,nr:=true,ys:=[] }
theorem Z4q:Sound Tryz.prog 215 (Z11g) :=
 Sound.shp (C:=Zh6) (fn:=Tryz.f215) (by kernel_rfl) (c:=bodyOf Tryz.f215) (by kernel_rfl) (by decide) (ctxOK mixed tbl_ok rfl ⟨Z45,trivial⟩ trivial) (SumOK.of trivial) (by kernel_rfl) Zqq Zw3 rfl (by decide) (by decide) rfl (by decide) rfl Z4p (fun x=>by kernel_rfl)
abbrev Zqs:Shape:={ sl:=sl_27,bl:=[],ts:=[y40,y5],pin:=0 }
abbrev Zw5:Shape:={ sl:=sl_28,bl:=[],ts:=[y40,y30,(.int .i64)],pin:=0 }
def Z4t (x:T45):Option T48 :=
 (Z4z ()).bind fun r26 =>
 bif (x.1.1 == (Int.negSucc 0)) then
 some (x.1,((0:Int),(0:Int),r26,(0:Int)),(0:Int))
 else
 (Z42 (x.1.2.2.2.2.2.1,x.2.1)).bind fun r27 =>
 bif (decide (r27 ≥ (0:Int))) then
 bif (x.1.2.2.2.1 == (1048576:Int)) then
 some (((0:Int),false,((0:Int),(0:Int),([]:List Int),(0:Int)),(0:Int),(0:Int),([]:List T7),([]:List T7)),((0:Int),(0:Int),((0:Int),(0:Int),(0:Int)),(0:Int)),(5:Int))
 else
 bif (decide (x.1.2.2.1.2.2.2 > (0:Int))) then
 bif (decide (r27 < (0:Int))) then
 (Z4x (x.1,(0:Int),(1:Int))).bind fun r28 =>
 some (r28,((1:Int),x.1.2.2.2.2.1,r26,(0:Int)),(0:Int))
 else
 bif (inb r27 (List.length x.1.2.2.2.2.2.1)) then
 (Z4l (x.1,(getAt ((0:Int),(0:Int),(0:Int)) x.1.2.2.2.2.2.1 (toN r27)).1)).bind fun r28 =>
 (Z4x (r28,(1:Int),(1:Int))).bind fun r29 =>
 some (r29,((1:Int),x.1.2.2.2.2.1,(getAt ((0:Int),(0:Int),(0:Int)) x.1.2.2.2.2.2.1 (toN r27)),x.1.2.2.2.1),(0:Int))
 else
 none
 else
 bif (decide (r27 ≥ (0:Int))) then
 bif (decide (r27 < (0:Int))) then
 (Z4x (x.1,(0:Int),(1:Int))).bind fun r28 =>
 some (r28,((1:Int),x.1.2.2.2.2.1,r26,(0:Int)),(0:Int))
 else
 bif (inb r27 (List.length x.1.2.2.2.2.2.1)) then
 (Z4l (x.1,(getAt ((0:Int),(0:Int),(0:Int)) x.1.2.2.2.2.2.1 (toN r27)).1)).bind fun r28 =>
 (Z4x (r28,(1:Int),(1:Int))).bind fun r29 =>
 some (r29,((1:Int),x.1.2.2.2.2.1,(getAt ((0:Int),(0:Int),(0:Int)) x.1.2.2.2.2.2.1 (toN r27)),x.1.2.2.2.1),(0:Int))
 else
 none
 else
 bif x.1.2.1 then
 some (x.1,((2:Int),(0:Int),r26,(0:Int)),(0:Int))
 else
 (Z4p (x.1.2.2.2.2.2.2,x.2)).bind fun r28 =>
 bif (r28.2 != (0:Int)) then
 some (((0:Int),false,((0:Int),(0:Int),([]:List Int),(0:Int)),(0:Int),(0:Int),([]:List T7),([]:List T7)),((0:Int),(0:Int),((0:Int),(0:Int),(0:Int)),(0:Int)),r28.2)
 else
 some ((x.1.1,x.1.2.1,x.1.2.2.1,x.1.2.2.2.1,x.1.2.2.2.2.1,x.1.2.2.2.2.2.1,r28.1),((0:Int),(0:Int),r26,(0:Int)),(0:Int))
 else
 bif (decide (x.1.2.2.1.2.2.2 > (0:Int))) then
 bif (decide (r27 < (0:Int))) then
 (Z4x (x.1,(0:Int),(1:Int))).bind fun r28 =>
 some (r28,((1:Int),x.1.2.2.2.2.1,r26,(0:Int)),(0:Int))
 else
 bif (inb r27 (List.length x.1.2.2.2.2.2.1)) then
 (Z4l (x.1,(getAt ((0:Int),(0:Int),(0:Int)) x.1.2.2.2.2.2.1 (toN r27)).1)).bind fun r28 =>
 (Z4x (r28,(1:Int),(1:Int))).bind fun r29 =>
 some (r29,((1:Int),x.1.2.2.2.2.1,(getAt ((0:Int),(0:Int),(0:Int)) x.1.2.2.2.2.2.1 (toN r27)),x.1.2.2.2.1),(0:Int))
 else
 none
 else
 bif (decide (r27 ≥ (0:Int))) then
 bif (decide (r27 < (0:Int))) then
 (Z4x (x.1,(0:Int),(1:Int))).bind fun r28 =>
 some (r28,((1:Int),x.1.2.2.2.2.1,r26,(0:Int)),(0:Int))
 else
 bif (inb r27 (List.length x.1.2.2.2.2.2.1)) then
 (Z4l (x.1,(getAt ((0:Int),(0:Int),(0:Int)) x.1.2.2.2.2.2.1 (toN r27)).1)).bind fun r28 =>
 (Z4x (r28,(1:Int),(1:Int))).bind fun r29 =>
 some (r29,((1:Int),x.1.2.2.2.2.1,(getAt ((0:Int),(0:Int),(0:Int)) x.1.2.2.2.2.2.1 (toN r27)),x.1.2.2.2.1),(0:Int))
 else
 none
 else
 bif x.1.2.1 then
 some (x.1,((2:Int),(0:Int),r26,(0:Int)),(0:Int))
 else
 (Z4p (x.1.2.2.2.2.2.2,x.2)).bind fun r28 =>
 bif (r28.2 != (0:Int)) then
 some (((0:Int),false,((0:Int),(0:Int),([]:List Int),(0:Int)),(0:Int),(0:Int),([]:List T7),([]:List T7)),((0:Int),(0:Int),((0:Int),(0:Int),(0:Int)),(0:Int)),r28.2)
 else
 some ((x.1.1,x.1.2.1,x.1.2.2.1,x.1.2.2.2.1,x.1.2.2.2.2.1,x.1.2.2.2.2.2.1,r28.1),((0:Int),(0:Int),r26,(0:Int)),(0:Int))
abbrev Z11i:=Spec.shp Zqs Zw5 Z4t
def Zh8:Ctx:={ tb:=mkTb T2.tbl,fx:=[(212,[],Z11l),(159,[],Z115),(213,[],Z11k),(214,[],Z11e),(215,[],Z11g)],sum:=[],nt:=86,pin:=0,nr:=true,ys:=[] }
theorem Z4u:Sound Tryz.prog 181 (Z11i) :=
 Sound.shp (C:=Zh8) (fn:=Tryz.f181) (by kernel_rfl) (c:=bodyOf Tryz.f181) (by kernel_rfl) (by decide) (ctxOK mixed tbl_ok rfl ⟨Z50,Z43,Z4y,Z4m,Z4q,trivial⟩ trivial) (SumOK.of trivial) (by kernel_rfl) Zqs Zw5 rfl (by decide) (by decide) rfl (by decide) rfl Z4t (fun x=>by kernel_rfl)
abbrev Zrp:Shape:={ sl:=[(0,(.hole y45)),(1,(.hole (.int .i64))),(2,(.hole (.int .i64)))],bl:=[],ts:=[y45,(.int .i64),(.int .i64)],pin:=0 }
abbrev Zx2:Shape:={ sl:=sl_1,bl:=[],ts:=ts_1,pin:=0 }
def Z6n (x:((T47 × T61) × Int × Int)):Option (Bool) :=
 (Z61 (x.1,x.2.1)).bind fun r27 =>
 bif (r27.1 == (4:Int)) then
 bif (inb r27.2.1 (List.length x.1.1.2.2.2.2.1)) then
 bif (inb x.2.2 (List.length (getAt (([]:List T0),false) x.1.1.2.2.2.2.1 (toN r27.2.1)).1)) then
 some (getAt (false,(0:Int)) (getAt (([]:List T0),false) x.1.1.2.2.2.2.1 (toN r27.2.1)).1 (toN x.2.2)).1
 else
 none
 else
 none
 else
 some (r27.1 == (1:Int))
abbrev Z12f:=Spec.shp Zrp Zx2 Z6n
def Zik:Ctx:={ tb:=mkTb T2.tbl,fx:=[(55,[],Z124)],sum:=[],nt:=29,pin:=0,nr:=true,ys:=[] }
theorem Z6o:Sound Tryz.prog 210 (Z12f) :=
 Sound.shp (C:=Zik) (fn:=Tryz.f210) (by kernel_rfl) (c:=bodyOf Tryz.f210) (by kernel_rfl) (by decide) (ctxOK mixed tbl_ok rfl ⟨Z62,trivial⟩ trivial) (SumOK.of trivial) (by kernel_rfl) Zrp Zx2 rfl (by decide) (by decide) rfl (by decide) rfl Z6n (fun x=>by kernel_rfl)
abbrev Zqt:Shape:={ sl:=sl_27,bl:=[],ts:=[y40,y5],pin:=0 }
abbrev Zw6:Shape:={ sl:=sl_28,bl:=[],ts:=[y40,y30,(.int .i64)],pin:=0 }
def Z4v (x:T45):Option T48 :=
 (Z4z ()).bind fun r28 =>
 bif (x.1.1 == (Int.negSucc 0)) then
 some (x.1,((0:Int),(0:Int),r28,(0:Int)),(0:Int))
 else
 bif x.1.2.1 then
 some (x.1,((3:Int),(0:Int),r28,(0:Int)),(0:Int))
 else
 (Z42 (x.1.2.2.2.2.2.2,x.2.1)).bind fun r29 =>
 bif (decide (r29 ≥ (0:Int))) then
 bif (x.1.2.2.2.1 == (1048576:Int)) then
 some (((0:Int),false,((0:Int),(0:Int),([]:List Int),(0:Int)),(0:Int),(0:Int),([]:List T7),([]:List T7)),((0:Int),(0:Int),((0:Int),(0:Int),(0:Int)),(0:Int)),(5:Int))
 else
 bif (decide (r29 < (0:Int))) then
 (Z4x (x.1,(1:Int),(0:Int))).bind fun r30 =>
 some (r30,((1:Int),x.1.2.2.2.1,r28,(0:Int)),(0:Int))
 else
 bif (inb r29 (List.length x.1.2.2.2.2.2.2)) then
 (Z4l (x.1,(getAt ((0:Int),(0:Int),(0:Int)) x.1.2.2.2.2.2.2 (toN r29)).1)).bind fun r30 =>
 (Z4x (r30,(1:Int),(1:Int))).bind fun r31 =>
 some (r31,((1:Int),x.1.2.2.2.1,(getAt ((0:Int),(0:Int),(0:Int)) x.1.2.2.2.2.2.2 (toN r29)),x.1.2.2.2.1),(0:Int))
 else
 none
 else
 bif (decide (x.1.2.2.1.2.2.2 < x.1.1)) then
 bif (x.1.2.2.2.1 == (1048576:Int)) then
 some (((0:Int),false,((0:Int),(0:Int),([]:List Int),(0:Int)),(0:Int),(0:Int),([]:List T7),([]:List T7)),((0:Int),(0:Int),((0:Int),(0:Int),(0:Int)),(0:Int)),(5:Int))
 else
 bif (decide (r29 < (0:Int))) then
 (Z4x (x.1,(1:Int),(0:Int))).bind fun r30 =>
 some (r30,((1:Int),x.1.2.2.2.1,r28,(0:Int)),(0:Int))
 else
 bif (inb r29 (List.length x.1.2.2.2.2.2.2)) then
 (Z4l (x.1,(getAt ((0:Int),(0:Int),(0:Int)) x.1.2.2.2.2.2.2 (toN r29)).1)).bind fun r30 =>
 (Z4x (r30,(1:Int),(1:Int))).bind fun r31 =>
 some (r31,((1:Int),x.1.2.2.2.1,(getAt ((0:Int),(0:Int),(0:Int)) x.1.2.2.2.2.2.2 (toN r29)),x.1.2.2.2.1),(0:Int))
 else
 none
 else
 (Z4p (x.1.2.2.2.2.2.1,x.2)).bind fun r30 =>
 bif (r30.2 != (0:Int)) then
 some (((0:Int),false,((0:Int),(0:Int),([]:List Int),(0:Int)),(0:Int),(0:Int),([]:List T7),([]:List T7)),((0:Int),(0:Int),((0:Int),(0:Int),(0:Int)),(0:Int)),r30.2)
 else
 some ((x.1.1,x.1.2.1,x.1.2.2.1,x.1.2.2.2.1,x.1.2.2.2.2.1,r30.1,x.1.2.2.2.2.2.2),((0:Int),(0:Int),r28,(0:Int)),(0:Int))
abbrev Z11j:=Spec.shp Zqt Zw6 Z4v
def Zh9:Ctx:={ tb:=mkTb T2.tbl,fx:=[(212,[],Z11l),(159,[],Z115),(213,[],Z11k),(214,[],Z11e),(215,[],Z11g)],sum:=[],nt:=84,pin:=0,nr:=true,ys:=[] }
theorem Z4w:Sound Tryz.prog 182 (Z11j) :=
 Sound.shp (C:=Zh9) (fn:=Tryz.f182) (by kernel_rfl) (c:=bodyOf Tryz.f182) (by kernel_rfl) (by decide) (ctxOK mixed tbl_ok rfl ⟨Z50,Z43,Z4y,Z4m,Z4q,trivial⟩ trivial) (SumOK.of trivial) (by kernel_rfl) Zqt Zw6 rfl (by decide) (by decide) rfl (by decide) rfl Z4v (fun x=>by kernel_rfl)
abbrev Zno:Shape:={ sl:=[(1,(.hole (.int .i64))),(3,(.ptr 0 [])),(5,(.ptr 1 [])),(6,(.ptr 2 [])),(7,(.sl 3)),(13,(.hole y41)),(14,(.hole (.int .i64))),(15,(.hole (.int .i64)))],bl:=[.var (.hole y46),.var (.hole y40),.var (.pr (.pr (.pr .nl (.pr (.hole (.int .i64)) (.pr (.hole (.int .i64)) (.pr (.hole (.int .i64)) (.pr .nl .nl))))) (.pr .nl (.pr .nl (.pr .nl (.pr .nl (.hole y4)))))) .nl),.row y40],ts:=[(.int .i64),y41,(.int .i64),(.int .i64),y46,y40,(.int .i64),(.int .i64),(.int .i64),y4,y41],pin:=0 }
abbrev Zm2:List (ETag × Shape):=[(.exit 0,{ sl:=sl_40,bl:=bl_27,ts:=[y46,(.int .i64),(.int .i64),(.int .i64),y4,y41],pin:=0 })]
def Zco (x:(Int × List T43 × Int × Int × T63 × (Int × T40) × Int × Int × Int × (Int × Int) × List T43)):Option ((Int × List T43 × Int × Int × T63 × (Int × T40) × Int × Int × Int × (Int × Int) × List T43) ⊕ (T63 × Int × Int × Int × (Int × Int) × List T43)) :=
 bif (decide (x.2.2.2.1 < x.2.2.1)) then
 bif (inb x.2.2.2.1 (List.length x.2.1)) then
 bif (x.2.2.2.1 == x.1) then
 bif (fits ((List.length x.2.2.2.2.2.2.2.2.2.2)+(List.length (x.2.2.2.2.2.1 :: ([]:List (Int × T41)))))) then
 some (.inl (x.1,x.2.1,x.2.2.1,(IntKind.wrap .i64 (x.2.2.2.1+(1:Int))),x.2.2.2.2.1,x.2.2.2.2.2.1,x.2.2.2.2.2.2.1,x.2.2.2.2.2.2.2.1,x.2.2.2.2.2.2.2.2.1,x.2.2.2.2.2.2.2.2.2.1,(x.2.2.2.2.2.2.2.2.2.2++(x.2.2.2.2.2.1 :: ([]:List (Int × T41))))))
 else
 none
 else
 bif (fits ((List.length x.2.2.2.2.2.2.2.2.2.2)+(List.length ((getAt ((0:Int),false,((0:Int),(0:Int),([]:List Int),(0:Int)),(0:Int),(0:Int),([]:List T7),([]:List T7)) x.2.1 (toN x.2.2.2.1)) :: ([]:List (Int × T41)))))) then
 some (.inl (x.1,x.2.1,x.2.2.1,(IntKind.wrap .i64 (x.2.2.2.1+(1:Int))),x.2.2.2.2.1,x.2.2.2.2.2.1,x.2.2.2.2.2.2.1,x.2.2.2.2.2.2.2.1,x.2.2.2.2.2.2.2.2.1,x.2.2.2.2.2.2.2.2.2.1,(x.2.2.2.2.2.2.2.2.2.2++((getAt ((0:Int),false,((0:Int),(0:Int),([]:List Int),(0:Int)),(0:Int),(0:Int),([]:List T7),([]:List T7)) x.2.1 (toN x.2.2.2.1)) :: ([]:List (Int × T41))))))
 else
 none
 else
 none
 else
 some (.inr (x.2.2.2.2.1,x.2.2.2.2.2.2.1,x.2.2.2.2.2.2.2.1,x.2.2.2.2.2.2.2.2.1,x.2.2.2.2.2.2.2.2.2.1,x.2.2.2.2.2.2.2.2.2.2))
def Zhw:Ctx:={ tb:=mkTb T2.tbl,fx:=[],sum:=[],nt:=33,pin:=0,nr:=true,ys:=[] }
theorem Zcp:CSound Tryz.prog ⟨33,0,true⟩ (.loop (loopOf 4 Tryz.f178)) (Yay Zno Zm2 (loop Zco)) :=
 Y8c (C:=Zhw) (ctxOK mixed tbl_ok rfl trivial trivial) (SumOK.of trivial) Zno Zm2 rfl rfl Zco (fun x=>by kernel_rfl)
abbrev Zr8:Shape:={ sl:=[(0,(.hole y46)),(1,(.hole (.int .i64))),(2,(.hole y40))],bl:=[],ts:=[y46,(.int .i64),y40],pin:=0 }
abbrev Zwl:Shape:={ sl:=sl_39,bl:=[],ts:=[y46],pin:=0 }
def Z5p (x:(T63 × Int × (Int × T40))):Option (T63) :=
 (loop Zco (x.2.1,x.1.1.2.2.1,(((List.length x.1.1.2.2.1):Nat):Int),(0:Int),x.1,x.2.2,(0:Int),(0:Int),(0:Int),((0:Int),(0:Int)),([]:List (Int × T41)))).bind fun r29 =>
 some ((r29.1.1.1,r29.1.1.2.1,r29.2.2.2.2.2,r29.1.1.2.2.2),r29.1.2)
abbrev Z11y:=Spec.shp Zr8 Zwl Z5p
def Zhv:Ctx:={ tb:=mkTb T2.tbl,fx:=[],sum:=[(0,4,Yay Zno Zm2 (loop Zco))],nt:=33,pin:=0,nr:=true,ys:=[] }
theorem Z5q:Sound Tryz.prog 178 (Z11y) :=
 Sound.shp (C:=Zhv) (fn:=Tryz.f178) (by kernel_rfl) (c:=bodyOf Tryz.f178) (by kernel_rfl) (by decide) (ctxOK mixed tbl_ok rfl trivial trivial) (SumOK.of ⟨(Yb0 (d:=.loop (loopOf 4 Tryz.f178)) (by kernel_rfl) Zcp),trivial⟩) (by kernel_rfl) Zr8 Zwl rfl (by decide) (by decide) rfl (by decide) rfl Z5p (fun x=>by kernel_rfl)
abbrev Zrw:Shape:={ sl:=sl_41,bl:=[],ts:=[y46,(.int .i64)],pin:=0 }
abbrev Zx9:Shape:={ sl:=sl_39,bl:=[],ts:=[y46],pin:=0 }
def Z71 (x:(T63 × Int)):Option (T63) :=
 bif (inb x.2 (List.length x.1.1.2.1)) then
 (Z5z (x.1,x.2,(getAt ((0:Int),(0:Int),(0:Int),false) x.1.1.2.1 (toN x.2)).1,(getAt ((0:Int),(0:Int),(0:Int),false) x.1.1.2.1 (toN x.2)).2.1,(1:Int),(getAt ((0:Int),(0:Int),(0:Int),false) x.1.1.2.1 (toN x.2)).2.2.2)).bind fun r30 =>
 some r30
 else
 none
abbrev Z12m:=Spec.shp Zrw Zx9 Z71
def Zit:Ctx:={ tb:=mkTb T2.tbl,fx:=[(105,[],Z123)],sum:=[],nt:=17,pin:=0,nr:=true,ys:=[] }
theorem Z72:Sound Tryz.prog 183 (Z12m) :=
 Sound.shp (C:=Zit) (fn:=Tryz.f183) (by kernel_rfl) (c:=bodyOf Tryz.f183) (by kernel_rfl) (by decide) (ctxOK mixed tbl_ok rfl ⟨Z60,trivial⟩ trivial) (SumOK.of trivial) (by kernel_rfl) Zrw Zx9 rfl (by decide) (by decide) rfl (by decide) rfl Z71 (fun x=>by kernel_rfl)
abbrev Znr:Shape:={ sl:=[(1,(.hole (.int .i64))),(2,(.ptr 0 [])),(4,(.ptr 1 [])),(5,(.sl 2)),(11,(.hole y41)),(12,(.hole (.int .i64))),(13,(.hole (.int .i64)))],bl:=bl_27,ts:=[(.int .i64),y41,(.int .i64),(.int .i64),y46,(.int .i64),(.int .i64),(.int .i64),y4,y41],pin:=0 }
abbrev Zm5:List (ETag × Shape):=[(.exit 0,{ sl:=[(2,(.ptr 0 [])),(4,(.ptr 1 [])),(5,(.sl 2))],bl:=bl_27,ts:=[y46,(.int .i64),(.int .i64),(.int .i64),y4,y41],pin:=0 })]
def Zcu (x:(Int × List T43 × Int × Int × T63 × Int × Int × Int × (Int × Int) × List T43)):Option ((Int × List T43 × Int × Int × T63 × Int × Int × Int × (Int × Int) × List T43) ⊕ (T63 × Int × Int × Int × (Int × Int) × List T43)) :=
 bif (decide (x.2.2.2.1 < x.2.2.1)) then
 bif (inb x.2.2.2.1 (List.length x.2.1)) then
 (Z4l ((getAt ((0:Int),false,((0:Int),(0:Int),([]:List Int),(0:Int)),(0:Int),(0:Int),([]:List T7),([]:List T7)) x.2.1 (toN x.2.2.2.1)),x.1)).bind fun r36 =>
 bif (fits ((List.length x.2.2.2.2.2.2.2.2.2)+(List.length (r36 :: ([]:List (Int × T41)))))) then
 some (.inl (x.1,x.2.1,x.2.2.1,(IntKind.wrap .i64 (x.2.2.2.1+(1:Int))),x.2.2.2.2.1,x.2.2.2.2.2.1,x.2.2.2.2.2.2.1,x.2.2.2.2.2.2.2.1,x.2.2.2.2.2.2.2.2.1,(x.2.2.2.2.2.2.2.2.2++(r36 :: ([]:List (Int × T41))))))
 else
 none
 else
 none
 else
 some (.inr (x.2.2.2.2.1,x.2.2.2.2.2.1,x.2.2.2.2.2.2.1,x.2.2.2.2.2.2.2.1,x.2.2.2.2.2.2.2.2.1,x.2.2.2.2.2.2.2.2.2))
def Zi7:Ctx:={ tb:=mkTb T2.tbl,fx:=[(214,[],Z11e)],sum:=[],nt:=28,pin:=0,nr:=true,ys:=[] }
theorem Zcv:CSound Tryz.prog ⟨28,0,true⟩ (.loop (loopOf 4 Tryz.f211)) (Yay Znr Zm5 (loop Zcu)) :=
 Y8c (C:=Zi7) (ctxOK mixed tbl_ok rfl ⟨Z4m,trivial⟩ trivial) (SumOK.of trivial) Znr Zm5 rfl rfl Zcu (fun x=>by kernel_rfl)
abbrev Zrg:Shape:={ sl:=sl_41,bl:=[],ts:=[y46,(.int .i64)],pin:=0 }
abbrev Zwt:Shape:={ sl:=sl_39,bl:=[],ts:=[y46],pin:=0 }
def Z65 (x:(T63 × Int)):Option (T63) :=
 (loop Zcu (x.2,x.1.1.2.2.1,(((List.length x.1.1.2.2.1):Nat):Int),(0:Int),x.1,(0:Int),(0:Int),(0:Int),((0:Int),(0:Int)),([]:List (Int × T41)))).bind fun r35 =>
 some ((r35.1.1.1,r35.1.1.2.1,r35.2.2.2.2.2,r35.1.1.2.2.2),r35.1.2)
abbrev Z126:=Spec.shp Zrg Zwt Z65
def Zi6:Ctx:={ tb:=mkTb T2.tbl,fx:=[(214,[],Z11e)],sum:=[(0,4,Yay Znr Zm5 (loop Zcu))],nt:=28,pin:=0,nr:=true,ys:=[] }
theorem Z66:Sound Tryz.prog 211 (Z126) :=
 Sound.shp (C:=Zi6) (fn:=Tryz.f211) (by kernel_rfl) (c:=bodyOf Tryz.f211) (by kernel_rfl) (by decide) (ctxOK mixed tbl_ok rfl ⟨Z4m,trivial⟩ trivial) (SumOK.of ⟨(Yb0 (d:=.loop (loopOf 4 Tryz.f211)) (by kernel_rfl) Zcv),trivial⟩) (by kernel_rfl) Zrg Zwt rfl (by decide) (by decide) rfl (by decide) rfl Z65 (fun x=>by kernel_rfl)
abbrev Zra:Shape:={ sl:=[(0,(.hole y46)),(1,(.hole (.int .i64))),(2,(.hole y5)),(3,(.hole (.int .i64))),(4,(.hole .bool))],bl:=[],ts:=[y46,(.int .i64),y5,(.int .i64),.bool],pin:=0 }
abbrev Zwn:Shape:={ sl:=sl_39,bl:=[],ts:=[y46],pin:=0 }
def Z5t (x:(T63 × Int × T7 × Int × Bool)):Option (T63) :=
 (Z6n (x.1.1,x.2.2.1.1,x.2.2.1.2.1)).bind fun r30 =>
 bif r30 then
 bif x.2.2.2.2 then
 (Z6x (x.1,x.2.2.1.1,(6:Int),x.2.1,x.2.2.2.1,x.2.2.1.2.2)).bind fun r31 =>
 bif (inb x.2.2.1.1 (List.length r31.1.2.1)) then
 (Z5z (r31,x.2.2.1.1,(getAt ((0:Int),(0:Int),(0:Int),false) r31.1.2.1 (toN x.2.2.1.1)).1,(getAt ((0:Int),(0:Int),(0:Int),false) r31.1.2.1 (toN x.2.2.1.1)).2.1,(getAt ((0:Int),(0:Int),(0:Int),false) r31.1.2.1 (toN x.2.2.1.1)).2.2.1,x.2.2.2.2)).bind fun r32 =>
 (Z69 (r32,x.2.2.1.1)).bind fun r33 =>
 (Z65 (r33,x.2.2.1.1)).bind fun r34 =>
 some r34
 else
 none
 else
 (Z6x (x.1,x.2.2.1.1,(3:Int),x.2.1,x.2.2.2.1,x.2.2.1.2.2)).bind fun r31 =>
 (Z69 (r31,x.2.2.1.1)).bind fun r32 =>
 (Z65 (r32,x.2.2.1.1)).bind fun r33 =>
 some r33
 else
 bif x.2.2.2.2 then
 (Z6x (x.1,x.2.2.1.1,(6:Int),x.2.1,x.2.2.2.1,x.2.2.1.2.2)).bind fun r31 =>
 bif (inb x.2.2.1.1 (List.length r31.1.2.1)) then
 (Z5z (r31,x.2.2.1.1,(getAt ((0:Int),(0:Int),(0:Int),false) r31.1.2.1 (toN x.2.2.1.1)).1,(getAt ((0:Int),(0:Int),(0:Int),false) r31.1.2.1 (toN x.2.2.1.1)).2.1,(getAt ((0:Int),(0:Int),(0:Int),false) r31.1.2.1 (toN x.2.2.1.1)).2.2.1,x.2.2.2.2)).bind fun r32 =>
 (Z69 (r32,x.2.2.1.1)).bind fun r33 =>
 (Z65 (r33,x.2.2.1.1)).bind fun r34 =>
 some r34
 else
 none
 else
 (Z6x (x.1,x.2.2.1.1,(5:Int),x.2.1,x.2.2.2.1,x.2.2.1.2.2)).bind fun r31 =>
 bif (inb x.2.2.1.1 (List.length r31.1.2.1)) then
 (Z5z (r31,x.2.2.1.1,(getAt ((0:Int),(0:Int),(0:Int),false) r31.1.2.1 (toN x.2.2.1.1)).1,(getAt ((0:Int),(0:Int),(0:Int),false) r31.1.2.1 (toN x.2.2.1.1)).2.1,(getAt ((0:Int),(0:Int),(0:Int),false) r31.1.2.1 (toN x.2.2.1.1)).2.2.1,x.2.2.2.2)).bind fun r32 =>
 (Z69 (r32,x.2.2.1.1)).bind fun r33 =>
 (Z65 (r33,x.2.2.1.1)).bind fun r34 =>
 some r34
 else
 none
abbrev Z120:=Spec.shp Zra Zwn Z5t
def Zhy:Ctx:={ tb:=mkTb T2.tbl,fx:=[(210,[],Z12f),(52,[],Z12k),(105,[],Z123),(132,[],Z128),(211,[],Z126)],sum:=[],nt:=54,pin:=0,nr:=true,ys:=[] }
theorem Z5u:Sound Tryz.prog 180 (Z120) :=
 Sound.shp (C:=Zhy) (fn:=Tryz.f180) (by kernel_rfl) (c:=bodyOf Tryz.f180) (by kernel_rfl) (by decide) (ctxOK mixed tbl_ok rfl ⟨Z6o,Z6y,Z60,Z6a,Z66,trivial⟩ trivial) (SumOK.of trivial) (by kernel_rfl) Zra Zwn rfl (by decide) (by decide) rfl (by decide) rfl Z5t (fun x=>by kernel_rfl)
abbrev Zrl:Shape:={ sl:=sl_42,bl:=[],ts:=ts_18,pin:=0 }
abbrev Zwy:Shape:={ sl:=sl_39,bl:=[],ts:=[y46],pin:=0 }
def Z6f (x:T69):Option (T63) :=
 bif (inb x.2.1 (List.length x.1.1.2.2.1)) then
 (Z4t ((getAt ((0:Int),false,((0:Int),(0:Int),([]:List Int),(0:Int)),(0:Int),(0:Int),([]:List T7),([]:List T7)) x.1.1.2.2.1 (toN x.2.1)),x.2.2)).bind fun r25 =>
 (Z6n (x.1.1,x.2.2.1,x.2.2.2.1)).bind fun r26 =>
 bif r26 then
 bif (inb x.2.1 (List.length x.1.1.2.2.1)) then
 (Z4v ((getAt ((0:Int),false,((0:Int),(0:Int),([]:List Int),(0:Int)),(0:Int),(0:Int),([]:List T7),([]:List T7)) x.1.1.2.2.1 (toN x.2.1)),x.2.2)).bind fun r27 =>
 (Z5p (x.1,x.2.1,r27.1)).bind fun r28 =>
 bif (r27.2.1.1 == (0:Int)) then
 (Z71 (r28,x.2.2.1)).bind fun r29 =>
 some r29
 else
 bif (r27.2.1.1 == (3:Int)) then
 some ((r28.1.1,r28.1.2.1,r28.1.2.2.1,r28.1.2.2.2.1,r28.1.2.2.2.2.1,r28.1.2.2.2.2.2.1,(3:Int)),r28.2)
 else
 bif (decide (r27.2.1.2.2.1.1 ≥ (0:Int))) then
 (Z5t (r28,x.2.1,r27.2.1.2.2.1,r27.2.1.2.2.2,false)).bind fun r29 =>
 (Z5t (r29,x.2.1,x.2.2,r27.2.1.2.1,(r27.2.1.1 == (2:Int)))).bind fun r30 =>
 some r30
 else
 (Z5t (r28,x.2.1,x.2.2,r27.2.1.2.1,(r27.2.1.1 == (2:Int)))).bind fun r29 =>
 some r29
 else
 none
 else
 (Z5p (x.1,x.2.1,r25.1)).bind fun r27 =>
 bif (r25.2.1.1 == (0:Int)) then
 (Z71 (r27,x.2.2.1)).bind fun r28 =>
 some r28
 else
 bif (r25.2.1.1 == (3:Int)) then
 some ((r27.1.1,r27.1.2.1,r27.1.2.2.1,r27.1.2.2.2.1,r27.1.2.2.2.2.1,r27.1.2.2.2.2.2.1,(3:Int)),r27.2)
 else
 bif (decide (r25.2.1.2.2.1.1 ≥ (0:Int))) then
 (Z5t (r27,x.2.1,r25.2.1.2.2.1,r25.2.1.2.2.2,false)).bind fun r28 =>
 (Z5t (r28,x.2.1,x.2.2,r25.2.1.2.1,(r25.2.1.1 == (2:Int)))).bind fun r29 =>
 some r29
 else
 (Z5t (r27,x.2.1,x.2.2,r25.2.1.2.1,(r25.2.1.1 == (2:Int)))).bind fun r28 =>
 some r28
 else
 none
abbrev Z12b:=Spec.shp Zrl Zwy Z6f
def Zie:Ctx:={ tb:=mkTb T2.tbl,fx:=[(181,[],Z11i),(210,[],Z12f),(182,[],Z11j),(178,[],Z11y),(183,[],Z12m),(180,[],Z120)],sum:=[],nt:=78,pin:=0,nr:=true,ys:=[] }
theorem Z6g:Sound Tryz.prog 176 (Z12b) :=
 Sound.shp (C:=Zie) (fn:=Tryz.f176) (by kernel_rfl) (c:=bodyOf Tryz.f176) (by kernel_rfl) (by decide) (ctxOK mixed tbl_ok rfl ⟨Z4u,Z6o,Z4w,Z5q,Z72,Z5u,trivial⟩ trivial) (SumOK.of trivial) (by kernel_rfl) Zrl Zwy rfl (by decide) (by decide) rfl (by decide) rfl Z6f (fun x=>by kernel_rfl)
abbrev Zrk:Shape:={ sl:=sl_42,bl:=[],ts:=ts_18,pin:=0 }
abbrev Zwx:Shape:={ sl:=sl_39,bl:=[],ts:=[y46],pin:=0 }
def Z6d (x:T69):Option (T63) :=
 bif (x.2.2.1 == (2:Int)) then
 (Z6h (x.2.1,(4:Int),x.2.2.2.1)).bind fun r22 =>
 (Z6x (x.1,r22)).bind fun r23 =>
 (Z6f (r23,x.2.2.2.1,x.2.1,(0:Int),x.1.1.2.2.2.2.2.1)).bind fun r24 =>
 some r24
 else
 (Z6h (x.2.1,(2:Int),x.2.2.2.1)).bind fun r22 =>
 (Z6x (x.1,r22)).bind fun r23 =>
 (Z6f (r23,x.2.2.2.1,x.2.1,(0:Int),x.1.1.2.2.2.2.2.1)).bind fun r24 =>
 some r24
abbrev Z12a:=Spec.shp Zrk Zwx Z6d
def Zid:Ctx:={ tb:=mkTb T2.tbl,fx:=[(53,[],Z12c),(52,[],Z12k),(176,[],Z12b)],sum:=[],nt:=29,pin:=0,nr:=true,ys:=[] }
theorem Z6e:Sound Tryz.prog 133 (Z12a) :=
 Sound.shp (C:=Zid) (fn:=Tryz.f133) (by kernel_rfl) (c:=bodyOf Tryz.f133) (by kernel_rfl) (by decide) (ctxOK mixed tbl_ok rfl ⟨Z6i,Z6y,Z6g,trivial⟩ trivial) (SumOK.of trivial) (by kernel_rfl) Zrk Zwx rfl (by decide) (by decide) rfl (by decide) rfl Z6d (fun x=>by kernel_rfl)
abbrev Zqn:Shape:={ sl:=[(0,(.hole y40))],bl:=[],ts:=[y40],pin:=0 }
abbrev Zw0:Shape:={ sl:=[(0,(.hole y40)),(1,(.hole (.slice y5))),(2,(.hole .bool))],bl:=[],ts:=[y40,(.slice y5),.bool],pin:=0 }
def Z4j (x:T43):Option ((Int × T40) × List (T7) × Bool) :=
 bif (x.1 == (Int.negSucc 0)) then
 some (x,([]:List T7),true)
 else
 bif x.2.1 then
 some (x,([]:List T7),true)
 else
 bif (decide ((((List.length x.2.2.2.2.2.1):Nat):Int) > (0:Int))) then
 some (x,([]:List T7),true)
 else
 some ((x.1,true,x.2.2.1,x.2.2.2.1,x.2.2.2.2.1,x.2.2.2.2.2.1,([]:List T7)),x.2.2.2.2.2.2,false)
abbrev Z11d:=Spec.shp Zqn Zw0 Z4j
def Zh2:Ctx:={ tb:=mkTb T2.tbl,fx:=[],sum:=[],nt:=26,pin:=0,nr:=true,ys:=[] }
theorem Z4k:Sound Tryz.prog 177 (Z11d) :=
 Sound.shp (C:=Zh2) (fn:=Tryz.f177) (by kernel_rfl) (c:=bodyOf Tryz.f177) (by kernel_rfl) (by decide) (ctxOK mixed tbl_ok rfl trivial trivial) (SumOK.of trivial) (by kernel_rfl) Zqn Zw0 rfl (by decide) (by decide) rfl (by decide) rfl Z4j (fun x=>by kernel_rfl)
abbrev Znw:Shape:={ sl:=[(3,(.ptr 0 [])),(5,(.ptr 1 [])),(6,(.ptr 2 [])),(8,(.hole (.slice y5))),(41,(.hole (.slice y5))),(42,(.hole (.int .i64))),(43,(.hole (.int .i64)))],bl:=bl_28,ts:=[(.slice y5),(.slice y5),(.int .i64),(.int .i64),y46,y5,(.int .i64),(.int .i64),(.int .i64),y4],pin:=0 }
abbrev Zma:List (ETag × Shape):=[(.exit 0,{ sl:=[(3,(.ptr 0 [])),(6,(.ptr 1 []))],bl:=bl_29,ts:=[y46,(.int .i64),(.int .i64),(.int .i64),y4],pin:=0 })]
def Zd4 (x:(List (T7) × List (T7) × Int × Int × T63 × T7 × Int × Int × Int × (Int × Int))):Option ((List (T7) × List (T7) × Int × Int × T63 × T7 × Int × Int × Int × (Int × Int)) ⊕ (T63 × Int × Int × Int × (Int × Int))) :=
 bif (decide (x.2.2.2.1 < x.2.2.1)) then
 bif (inb x.2.2.2.1 (List.length x.2.1)) then
 bif (sub3 (0:Int) x.2.2.2.1 (List.length x.1)) then
 (Z40 ((cut x.1 (toN (0:Int)) ((toN x.2.2.2.1) - (toN (0:Int)))),(getAt ((0:Int),(0:Int),(0:Int)) x.2.1 (toN x.2.2.2.1)).1)).bind fun r28 =>
 bif ((((List.length r28):Nat):Int) == x.2.2.2.1) then
 (Z5t (x.2.2.2.2.1,x.2.2.2.2.2.1.2.1,(getAt ((0:Int),(0:Int),(0:Int)) x.2.1 (toN x.2.2.2.1)),(0:Int),true)).bind fun r29 =>
 some (.inl (x.1,x.2.1,x.2.2.1,(IntKind.wrap .i64 (x.2.2.2.1+(1:Int))),r29,x.2.2.2.2.2.1,x.2.2.2.2.2.2.1,x.2.2.2.2.2.2.2.1,x.2.2.2.2.2.2.2.2.1,x.2.2.2.2.2.2.2.2.2))
 else
 some (.inl (x.1,x.2.1,x.2.2.1,(IntKind.wrap .i64 (x.2.2.2.1+(1:Int))),x.2.2.2.2.1,x.2.2.2.2.2.1,x.2.2.2.2.2.2.1,x.2.2.2.2.2.2.2.1,x.2.2.2.2.2.2.2.2.1,x.2.2.2.2.2.2.2.2.2))
 else
 none
 else
 none
 else
 some (.inr (x.2.2.2.2.1,x.2.2.2.2.2.2.1,x.2.2.2.2.2.2.2.1,x.2.2.2.2.2.2.2.2.1,x.2.2.2.2.2.2.2.2.2))
def Zim:Ctx:={ tb:=mkTb T2.tbl,fx:=[(177,[],Z11d),(178,[],Z11y),(53,[],Z12c),(52,[],Z12k),(132,[],Z128),(179,[],Z114),(180,[],Z120)],sum:=[],nt:=64,pin:=0,nr:=true,ys:=[] }
theorem Zd5:CSound Tryz.prog ⟨64,0,true⟩ (.loop (loopOf 9 Tryz.f134)) (Yay Znw Zma (loop Zd4)) :=
 Y8c (C:=Zim) (ctxOK mixed tbl_ok rfl ⟨Z4k,Z5q,Z6i,Z6y,Z6a,Z41,Z5u,trivial⟩ trivial) (SumOK.of trivial) Znw Zma rfl rfl Zd4 (fun x=>by kernel_rfl)
abbrev Zrq:Shape:={ sl:=sl_42,bl:=[],ts:=ts_18,pin:=0 }
abbrev Zx3:Shape:={ sl:=sl_39,bl:=[],ts:=[y46],pin:=0 }
def Z6p (x:T69):Option (T63) :=
 bif (inb x.2.2.2.1 (List.length x.1.1.2.2.1)) then
 (Z4j (getAt ((0:Int),false,((0:Int),(0:Int),([]:List Int),(0:Int)),(0:Int),(0:Int),([]:List T7),([]:List T7)) x.1.1.2.2.1 (toN x.2.2.2.1))).bind fun r22 =>
 bif r22.2.2 then
 some ((x.1.1.1,x.1.1.2.1,x.1.1.2.2.1,x.1.1.2.2.2.1,x.1.1.2.2.2.2.1,x.1.1.2.2.2.2.2.1,(3:Int)),x.1.2)
 else
 (Z5p (x.1,x.2.2.2.1,r22.1)).bind fun r23 =>
 (Z6h (x.2.1,(7:Int),x.2.2.2.1)).bind fun r24 =>
 (Z6x (r23,r24)).bind fun r25 =>
 (Z69 (r25,x.2.1)).bind fun r26 =>
 (loop Zd4 (r22.2.1,r22.2.1,(((List.length r22.2.1):Nat):Int),(0:Int),r26,x.2.2,(0:Int),(0:Int),(0:Int),(0:Int),(0:Int))).bind fun r27 =>
 some r27.1
 else
 none
abbrev Z12g:=Spec.shp Zrq Zx3 Z6p
def Zil:Ctx:={ tb:=mkTb T2.tbl,fx:=[(177,[],Z11d),(178,[],Z11y),(53,[],Z12c),(52,[],Z12k),(132,[],Z128),(179,[],Z114),(180,[],Z120)],sum:=[(0,9,Yay Znw Zma (loop Zd4))],nt:=64,pin:=0,nr:=true,ys:=[] }
theorem Z6q:Sound Tryz.prog 134 (Z12g) :=
 Sound.shp (C:=Zil) (fn:=Tryz.f134) (by kernel_rfl) (c:=bodyOf Tryz.f134) (by kernel_rfl) (by decide) (ctxOK mixed tbl_ok rfl ⟨Z4k,Z5q,Z6i,Z6y,Z6a,Z41,Z5u,trivial⟩ trivial) (SumOK.of ⟨(Yb0 (d:=.loop (loopOf 9 Tryz.f134)) (by kernel_rfl) Zd5),trivial⟩) (by kernel_rfl) Zrq Zx3 rfl (by decide) (by decide) rfl (by decide) rfl Z6p (fun x=>by kernel_rfl)
abbrev Znv:Shape:={ sl:=[(1,(.hole (.int .i64))),(4,(.ptr 0 [])),(8,(.ptr 1 [])),(9,(.hole (.int .i64))),(60,(.hole (.slice y2))),(61,(.hole (.int .i64))),(62,(.hole (.int .i64)))],bl:=bl_29,ts:=[(.int .i64),(.int .i64),(.slice y2),(.int .i64),(.int .i64),y46,(.int .i64),(.int .i64),(.int .i64),y4],pin:=0 }
abbrev Zm9:List (ETag × Shape):=[(.exit 0,{ sl:=[(1,(.hole (.int .i64))),(4,(.ptr 0 [])),(8,(.ptr 1 []))],bl:=bl_29,ts:=[(.int .i64),y46,(.int .i64),(.int .i64),(.int .i64),y4],pin:=0 })]
def Zd2 (x:(Int × Int × List T0 × Int × Int × T63 × Int × Int × Int × (Int × Int))):Option ((Int × Int × List T0 × Int × Int × T63 × Int × Int × Int × (Int × Int)) ⊕ (Int × T63 × Int × Int × Int × (Int × Int))) :=
 bif (decide (x.2.2.2.2.1 < x.2.2.2.1)) then
 bif (inb x.2.2.2.2.1 (List.length x.2.2.1)) then
 bif (inb (getAt (false,(0:Int)) x.2.2.1 (toN x.2.2.2.2.1)).2 (List.length x.2.2.2.2.2.1.1.2.2.1)) then
 (Z4t ((getAt ((0:Int),false,((0:Int),(0:Int),([]:List Int),(0:Int)),(0:Int),(0:Int),([]:List T7),([]:List T7)) x.2.2.2.2.2.1.1.2.2.1 (toN (getAt (false,(0:Int)) x.2.2.1 (toN x.2.2.2.2.1)).2)),x.1,x.2.2.2.2.1,x.2.1)).bind fun r25 =>
 bif (getAt (false,(0:Int)) x.2.2.1 (toN x.2.2.2.2.1)).1 then
 bif (inb (getAt (false,(0:Int)) x.2.2.1 (toN x.2.2.2.2.1)).2 (List.length x.2.2.2.2.2.1.1.2.2.1)) then
 (Z4v ((getAt ((0:Int),false,((0:Int),(0:Int),([]:List Int),(0:Int)),(0:Int),(0:Int),([]:List T7),([]:List T7)) x.2.2.2.2.2.1.1.2.2.1 (toN (getAt (false,(0:Int)) x.2.2.1 (toN x.2.2.2.2.1)).2)),x.1,x.2.2.2.2.1,x.2.1)).bind fun r26 =>
 (Z5p (x.2.2.2.2.2.1,(getAt (false,(0:Int)) x.2.2.1 (toN x.2.2.2.2.1)).2,r26.1)).bind fun r27 =>
 some (.inl (x.1,x.2.1,x.2.2.1,x.2.2.2.1,(IntKind.wrap .i64 (x.2.2.2.2.1+(1:Int))),r27,x.2.2.2.2.2.2.1,x.2.2.2.2.2.2.2.1,x.2.2.2.2.2.2.2.2.1,x.2.2.2.2.2.2.2.2.2))
 else
 none
 else
 (Z5p (x.2.2.2.2.2.1,(getAt (false,(0:Int)) x.2.2.1 (toN x.2.2.2.2.1)).2,r25.1)).bind fun r26 =>
 some (.inl (x.1,x.2.1,x.2.2.1,x.2.2.2.1,(IntKind.wrap .i64 (x.2.2.2.2.1+(1:Int))),r26,x.2.2.2.2.2.2.1,x.2.2.2.2.2.2.2.1,x.2.2.2.2.2.2.2.2.1,x.2.2.2.2.2.2.2.2.2))
 else
 none
 else
 none
 else
 some (.inr (x.1,x.2.2.2.2.2.1,x.2.2.2.2.2.2.1,x.2.2.2.2.2.2.2.1,x.2.2.2.2.2.2.2.2.1,x.2.2.2.2.2.2.2.2.2))
def Zij:Ctx:={ tb:=mkTb T2.tbl,fx:=[(53,[],Z12c),(52,[],Z12k),(176,[],Z12b),(132,[],Z128),(181,[],Z11i),(182,[],Z11j),(178,[],Z11y)],sum:=[],nt:=108,pin:=0,nr:=true,ys:=[] }
theorem Zd3:CSound Tryz.prog ⟨108,0,true⟩ (.loop (loopOf 10 Tryz.f135)) (Yay Znv Zm9 (loop Zd2)) :=
 Y8c (C:=Zij) (ctxOK mixed tbl_ok rfl ⟨Z6i,Z6y,Z6g,Z6a,Z4u,Z4w,Z5q,trivial⟩ trivial) (SumOK.of trivial) Znv Zm9 rfl rfl Zd2 (fun x=>by kernel_rfl)
abbrev Zro:Shape:={ sl:=[(0,(.hole y46)),(1,(.hole (.int .i64))),(2,(.hole (.int .i64))),(3,(.hole y5))],bl:=[],ts:=[y46,(.int .i64),(.int .i64),y5],pin:=0 }
abbrev Zx1:Shape:={ sl:=sl_39,bl:=[],ts:=[y46],pin:=0 }
def Z6l (x:(T63 × Int × Int × T7)):Option (T63) :=
 (Z6h (x.2.1,(8:Int),x.2.2.2.2.1)).bind fun r22 =>
 (Z6x (x.1,r22)).bind fun r23 =>
 bif (inb x.2.2.2.2.1 (List.length r23.1.1.2.2.2.2.1)) then
 bif (decide (x.2.2.1 ≥ (0:Int))) then
 bif (inb x.2.2.1 (List.length (getAt (([]:List T0),false) r23.1.1.2.2.2.2.1 (toN x.2.2.2.2.1)).1)) then
 (Z6f (r23,(getAt (false,(0:Int)) (getAt (([]:List T0),false) r23.1.1.2.2.2.2.1 (toN x.2.2.2.2.1)).1 (toN x.2.2.1)).2,x.2.1,x.2.2.1,x.1.1.2.2.2.2.2.1)).bind fun r24 =>
 some r24
 else
 none
 else
 bif (getAt (([]:List T0),false) r23.1.1.2.2.2.2.1 (toN x.2.2.2.2.1)).2 then
 (Z6x (r23,x.2.1,(9:Int),x.2.2.2.2.1,(0:Int),x.1.1.2.2.2.2.2.1)).bind fun r24 =>
 (Z69 (r24,x.2.1)).bind fun r25 =>
 some r25
 else
 (loop Zd2 (x.2.1,x.1.1.2.2.2.2.2.1,(getAt (([]:List T0),false) r23.1.1.2.2.2.2.1 (toN x.2.2.2.2.1)).1,(((List.length (getAt (([]:List T0),false) r23.1.1.2.2.2.2.1 (toN x.2.2.2.2.1)).1):Nat):Int),(0:Int),r23,(0:Int),(0:Int),(0:Int),(0:Int),(0:Int))).bind fun r24 =>
 (Z71 (r24.2.1,r24.1)).bind fun r25 =>
 some r25
 else
 none
abbrev Z12e:=Spec.shp Zro Zx1 Z6l
def Zii:Ctx:={ tb:=mkTb T2.tbl,fx:=[(53,[],Z12c),(52,[],Z12k),(176,[],Z12b),(132,[],Z128),(181,[],Z11i),(182,[],Z11j),(178,[],Z11y),(183,[],Z12m)],sum:=[(0,10,Yay Znv Zm9 (loop Zd2))],nt:=108,pin:=0,nr:=true,ys:=[] }
theorem Z6m:Sound Tryz.prog 135 (Z12e) :=
 Sound.shp (C:=Zii) (fn:=Tryz.f135) (by kernel_rfl) (c:=bodyOf Tryz.f135) (by kernel_rfl) (by decide) (ctxOK mixed tbl_ok rfl ⟨Z6i,Z6y,Z6g,Z6a,Z4u,Z4w,Z5q,Z72,trivial⟩ trivial) (SumOK.of ⟨(Yb0 (d:=.loop (loopOf 10 Tryz.f135)) (by kernel_rfl) Zd3),trivial⟩) (by kernel_rfl) Zro Zx1 rfl (by decide) (by decide) rfl (by decide) rfl Z6l (fun x=>by kernel_rfl)
abbrev Zqy:Shape:={ sl:=[(0,(.hole y15)),(1,(.hole y5))],bl:=[],ts:=[y15,y5],pin:=0 }
abbrev Zwb:Shape:={ sl:=[(0,(.hole y15)),(1,(.hole .bool)),(2,(.hole (.int .i64)))],bl:=[],ts:=[y15,.bool,(.int .i64)],pin:=0 }
def Z55 (x:(T18 × T7)):Option (T18 × Bool × Int) :=
 bif (Bool.not x.1.1) then
 some ((true,([]:List T7)),true,(0:Int))
 else
 (Z44 (x.1.2,x.2.1,x.2.2.1)).bind fun r26 =>
 bif r26 then
 some ((false,([]:List T7)),false,(7:Int))
 else
 bif ((((List.length x.1.2):Nat):Int) == (64:Int)) then
 some ((false,([]:List T7)),false,(5:Int))
 else
 bif (fits ((List.length ([]:List T7))+(List.length x.1.2))) then
 bif (fits ((List.length (([]:List T7)++x.1.2))+(List.length (x.2 :: ([]:List T7))))) then
 some ((true,((([]:List T7)++x.1.2)++(x.2 :: ([]:List T7)))),false,(0:Int))
 else
 none
 else
 none
abbrev Z11o:=Spec.shp Zqy Zwb Z55
def Zhf:Ctx:={ tb:=mkTb T2.tbl,fx:=[(237,[],Z116)],sum:=[],nt:=35,pin:=0,nr:=true,ys:=[] }
theorem Z56:Sound Tryz.prog 216 (Z11o) :=
 Sound.shp (C:=Zhf) (fn:=Tryz.f216) (by kernel_rfl) (c:=bodyOf Tryz.f216) (by kernel_rfl) (by decide) (ctxOK mixed tbl_ok rfl ⟨Z45,trivial⟩ trivial) (SumOK.of trivial) (by kernel_rfl) Zqy Zwb rfl (by decide) (by decide) rfl (by decide) rfl Z55 (fun x=>by kernel_rfl)
abbrev Zns:Shape:={ sl:=[(1,(.hole (.int .i64))),(3,(.ptr 0 [])),(5,(.ptr 1 [])),(6,(.ptr 2 [])),(7,(.sl 3)),(13,(.hole y19)),(14,(.hole (.int .i64))),(15,(.hole (.int .i64)))],bl:=[.var (.hole y46),.var (.hole y15),.var (.pr (.pr (.pr .nl (.pr (.hole (.int .i64)) (.pr (.hole (.int .i64)) (.pr (.hole (.int .i64)) (.pr .nl .nl))))) (.pr .nl (.pr .nl (.pr .nl (.pr .nl (.hole y4)))))) .nl),.row y15],ts:=[(.int .i64),y19,(.int .i64),(.int .i64),y46,y15,(.int .i64),(.int .i64),(.int .i64),y4,y19],pin:=0 }
abbrev Zm6:List (ETag × Shape):=[(.exit 0,{ sl:=sl_40,bl:=[.var (.hole y46),.var (.pr (.pr (.pr .nl (.pr (.hole (.int .i64)) (.pr (.hole (.int .i64)) (.pr (.hole (.int .i64)) (.pr .nl .nl))))) (.pr .nl (.pr .nl (.pr .nl (.pr .nl (.hole y4)))))) .nl),.row y15],ts:=[y46,(.int .i64),(.int .i64),(.int .i64),y4,y19],pin:=0 })]
def Zcw (x:(Int × List (T18) × Int × Int × T63 × T18 × Int × Int × Int × (Int × Int) × List (T18))):Option ((Int × List (T18) × Int × Int × T63 × T18 × Int × Int × Int × (Int × Int) × List (T18)) ⊕ (T63 × Int × Int × Int × (Int × Int) × List (T18))) :=
 bif (decide (x.2.2.2.1 < x.2.2.1)) then
 bif (inb x.2.2.2.1 (List.length x.2.1)) then
 bif (x.2.2.2.1 == x.1) then
 bif (fits ((List.length x.2.2.2.2.2.2.2.2.2.2)+(List.length (x.2.2.2.2.2.1 :: ([]:List T22))))) then
 some (.inl (x.1,x.2.1,x.2.2.1,(IntKind.wrap .i64 (x.2.2.2.1+(1:Int))),x.2.2.2.2.1,x.2.2.2.2.2.1,x.2.2.2.2.2.2.1,x.2.2.2.2.2.2.2.1,x.2.2.2.2.2.2.2.2.1,x.2.2.2.2.2.2.2.2.2.1,(x.2.2.2.2.2.2.2.2.2.2++(x.2.2.2.2.2.1 :: ([]:List T22)))))
 else
 none
 else
 bif (fits ((List.length x.2.2.2.2.2.2.2.2.2.2)+(List.length ((getAt (false,([]:List T7)) x.2.1 (toN x.2.2.2.1)) :: ([]:List T22))))) then
 some (.inl (x.1,x.2.1,x.2.2.1,(IntKind.wrap .i64 (x.2.2.2.1+(1:Int))),x.2.2.2.2.1,x.2.2.2.2.2.1,x.2.2.2.2.2.2.1,x.2.2.2.2.2.2.2.1,x.2.2.2.2.2.2.2.2.1,x.2.2.2.2.2.2.2.2.2.1,(x.2.2.2.2.2.2.2.2.2.2++((getAt (false,([]:List T7)) x.2.1 (toN x.2.2.2.1)) :: ([]:List T22)))))
 else
 none
 else
 none
 else
 some (.inr (x.2.2.2.2.1,x.2.2.2.2.2.2.1,x.2.2.2.2.2.2.2.1,x.2.2.2.2.2.2.2.2.1,x.2.2.2.2.2.2.2.2.2.1,x.2.2.2.2.2.2.2.2.2.2))
def Zi9:Ctx:={ tb:=mkTb T2.tbl,fx:=[],sum:=[],nt:=33,pin:=0,nr:=true,ys:=[] }
theorem Zcx:CSound Tryz.prog ⟨33,0,true⟩ (.loop (loopOf 4 Tryz.f217)) (Yay Zns Zm6 (loop Zcw)) :=
 Y8c (C:=Zi9) (ctxOK mixed tbl_ok rfl trivial trivial) (SumOK.of trivial) Zns Zm6 rfl rfl Zcw (fun x=>by kernel_rfl)
abbrev Zrh:Shape:={ sl:=[(0,(.hole y46)),(1,(.hole (.int .i64))),(2,(.hole y15))],bl:=[],ts:=[y46,(.int .i64),y15],pin:=0 }
abbrev Zwu:Shape:={ sl:=sl_39,bl:=[],ts:=[y46],pin:=0 }
def Z67 (x:(T63 × Int × T18)):Option (T63) :=
 (loop Zcw (x.2.1,x.1.1.2.2.2.1,(((List.length x.1.1.2.2.2.1):Nat):Int),(0:Int),x.1,x.2.2,(0:Int),(0:Int),(0:Int),((0:Int),(0:Int)),([]:List T22))).bind fun r27 =>
 some ((r27.1.1.1,r27.1.1.2.1,r27.1.1.2.2.1,r27.2.2.2.2.2,r27.1.1.2.2.2.2),r27.1.2)
abbrev Z127:=Spec.shp Zrh Zwu Z67
def Zi8:Ctx:={ tb:=mkTb T2.tbl,fx:=[],sum:=[(0,4,Yay Zns Zm6 (loop Zcw))],nt:=33,pin:=0,nr:=true,ys:=[] }
theorem Z68:Sound Tryz.prog 217 (Z127) :=
 Sound.shp (C:=Zi8) (fn:=Tryz.f217) (by kernel_rfl) (c:=bodyOf Tryz.f217) (by kernel_rfl) (by decide) (ctxOK mixed tbl_ok rfl trivial trivial) (SumOK.of ⟨(Yb0 (d:=.loop (loopOf 4 Tryz.f217)) (by kernel_rfl) Zcx),trivial⟩) (by kernel_rfl) Zrh Zwu rfl (by decide) (by decide) rfl (by decide) rfl Z67 (fun x=>by kernel_rfl)
abbrev Zrt:Shape:={ sl:=sl_42,bl:=[],ts:=ts_18,pin:=0 }
abbrev Zx6:Shape:={ sl:=sl_39,bl:=[],ts:=[y46],pin:=0 }
def Z6v (x:T69):Option (T63) :=
 (Z6h (x.2.1,(10:Int),x.2.2.2.1)).bind fun r23 =>
 (Z6x (x.1,r23)).bind fun r24 =>
 bif (inb x.2.2.2.1 (List.length r24.1.2.2.2.1)) then
 (Z55 ((getAt (false,([]:List T7)) r24.1.2.2.2.1 (toN x.2.2.2.1)),x.2.1,(0:Int),x.1.1.2.2.2.2.2.1)).bind fun r25 =>
 (Z67 (r24,x.2.2.2.1,r25.1)).bind fun r26 =>
 bif (Bool.not r25.2.1) then
 (Z71 (r26,x.2.1)).bind fun r27 =>
 some r27
 else
 (Z6x (r26,x.2.1,(11:Int),x.2.2.2.1,(0:Int),x.1.1.2.2.2.2.2.1)).bind fun r27 =>
 (Z69 (r27,x.2.1)).bind fun r28 =>
 some r28
 else
 none
abbrev Z12j:=Spec.shp Zrt Zx6 Z6v
def Ziq:Ctx:={ tb:=mkTb T2.tbl,fx:=[(53,[],Z12c),(52,[],Z12k),(216,[],Z11o),(217,[],Z127),(183,[],Z12m),(132,[],Z128)],sum:=[],nt:=54,pin:=0,nr:=true,ys:=[] }
theorem Z6w:Sound Tryz.prog 184 (Z12j) :=
 Sound.shp (C:=Ziq) (fn:=Tryz.f184) (by kernel_rfl) (c:=bodyOf Tryz.f184) (by kernel_rfl) (by decide) (ctxOK mixed tbl_ok rfl ⟨Z6i,Z6y,Z56,Z68,Z72,Z6a,trivial⟩ trivial) (SumOK.of trivial) (by kernel_rfl) Zrt Zx6 rfl (by decide) (by decide) rfl (by decide) rfl Z6v (fun x=>by kernel_rfl)
abbrev Zqx:Shape:={ sl:=[(0,(.hole y15))],bl:=[],ts:=[y15],pin:=0 }
abbrev Zwa:Shape:={ sl:=[(0,(.hole y15)),(1,(.hole y5)),(2,(.hole .bool))],bl:=[],ts:=[y15,y5,.bool],pin:=0 }
def Z53 (x:(T18)):Option (T18 × T7 × Bool) :=
 bif ((((List.length x.2):Nat):Int) == (0:Int)) then
 some ((false,([]:List T7)),((0:Int),(0:Int),(0:Int)),false)
 else
 bif (sub3 (1:Int) (((List.length x.2):Nat):Int) (List.length x.2)) then
 bif (inb (0:Int) (List.length x.2)) then
 some ((true,(cut x.2 (toN (1:Int)) ((toN (((List.length x.2):Nat):Int)) - (toN (1:Int))))),(getAt ((0:Int),(0:Int),(0:Int)) x.2 (toN (0:Int))),true)
 else
 none
 else
 none
abbrev Z11n:=Spec.shp Zqx Zwa Z53
def Zhe:Ctx:={ tb:=mkTb T2.tbl,fx:=[],sum:=[],nt:=19,pin:=0,nr:=true,ys:=[] }
theorem Z54:Sound Tryz.prog 218 (Z11n) :=
 Sound.shp (C:=Zhe) (fn:=Tryz.f218) (by kernel_rfl) (c:=bodyOf Tryz.f218) (by kernel_rfl) (by decide) (ctxOK mixed tbl_ok rfl trivial trivial) (SumOK.of trivial) (by kernel_rfl) Zqx Zwa rfl (by decide) (by decide) rfl (by decide) rfl Z53 (fun x=>by kernel_rfl)
abbrev Zrc:Shape:={ sl:=sl_42,bl:=[],ts:=ts_18,pin:=0 }
abbrev Zwp:Shape:={ sl:=sl_39,bl:=[],ts:=[y46],pin:=0 }
def Z5x (x:T69):Option (T63) :=
 bif (inb x.2.2.2.1 (List.length x.1.1.2.2.2.1)) then
 bif (Bool.not (getAt (false,([]:List T7)) x.1.1.2.2.2.1 (toN x.2.2.2.1)).1) then
 some ((x.1.1.1,x.1.1.2.1,x.1.1.2.2.1,x.1.1.2.2.2.1,x.1.1.2.2.2.2.1,x.1.1.2.2.2.2.2.1,(3:Int)),x.1.2)
 else
 bif (inb x.2.2.2.1 (List.length x.1.1.2.2.2.1)) then
 (Z53 (getAt (false,([]:List T7)) x.1.1.2.2.2.1 (toN x.2.2.2.1))).bind fun r23 =>
 (Z67 (x.1,x.2.2.2.1,r23.1)).bind fun r24 =>
 (Z6h (x.2.1,(12:Int),x.2.2.2.1)).bind fun r25 =>
 (Z6x (r24,r25)).bind fun r26 =>
 (Z69 (r26,x.2.1)).bind fun r27 =>
 bif r23.2.2 then
 (Z6x (r27,r23.2.1.1,(11:Int),x.2.2.2.1,(0:Int),r23.2.1.2.2)).bind fun r28 =>
 (Z69 (r28,r23.2.1.1)).bind fun r29 =>
 some r29
 else
 some r27
 else
 none
 else
 none
abbrev Z122:=Spec.shp Zrc Zwp Z5x
def Zi1:Ctx:={ tb:=mkTb T2.tbl,fx:=[(218,[],Z11n),(217,[],Z127),(53,[],Z12c),(52,[],Z12k),(132,[],Z128)],sum:=[],nt:=60,pin:=0,nr:=true,ys:=[] }
theorem Z5y:Sound Tryz.prog 185 (Z122) :=
 Sound.shp (C:=Zi1) (fn:=Tryz.f185) (by kernel_rfl) (c:=bodyOf Tryz.f185) (by kernel_rfl) (by decide) (ctxOK mixed tbl_ok rfl ⟨Z54,Z68,Z6i,Z6y,Z6a,trivial⟩ trivial) (SumOK.of trivial) (by kernel_rfl) Zrc Zwp rfl (by decide) (by decide) rfl (by decide) rfl Z5x (fun x=>by kernel_rfl)
abbrev Zqz:Shape:={ sl:=sl_30,bl:=[],ts:=[y23,y5],pin:=0 }
abbrev Zwc:Shape:={ sl:=sl_31,bl:=[],ts:=ts_15,pin:=0 }
def Z57 (x:T30):Option T34 :=
 bif (x.1.1 == (0:Int)) then
 some (((1:Int),x.2.1,([]:List T7)),(0:Int),(0:Int))
 else
 bif (x.1.1 == (2:Int)) then
 some (x.1,(2:Int),(0:Int))
 else
 bif (x.1.2.1 == x.2.1) then
 some (((0:Int),(0:Int),([]:List T7)),(0:Int),(6:Int))
 else
 (Z44 (x.1.2.2,x.2.1,x.2.2.1)).bind fun r26 =>
 bif r26 then
 some (((0:Int),(0:Int),([]:List T7)),(0:Int),(7:Int))
 else
 bif ((((List.length x.1.2.2):Nat):Int) == (64:Int)) then
 some (((0:Int),(0:Int),([]:List T7)),(0:Int),(5:Int))
 else
 bif (fits ((List.length ([]:List T7))+(List.length x.1.2.2))) then
 bif (fits ((List.length (([]:List T7)++x.1.2.2))+(List.length (x.2 :: ([]:List T7))))) then
 some ((x.1.1,x.1.2.1,((([]:List T7)++x.1.2.2)++(x.2 :: ([]:List T7)))),(1:Int),(0:Int))
 else
 none
 else
 none
abbrev Z11p:=Spec.shp Zqz Zwc Z57
def Zhg:Ctx:={ tb:=mkTb T2.tbl,fx:=[(237,[],Z116)],sum:=[],nt:=48,pin:=0,nr:=true,ys:=[] }
theorem Z58:Sound Tryz.prog 219 (Z11p) :=
 Sound.shp (C:=Zhg) (fn:=Tryz.f219) (by kernel_rfl) (c:=bodyOf Tryz.f219) (by kernel_rfl) (by decide) (ctxOK mixed tbl_ok rfl ⟨Z45,trivial⟩ trivial) (SumOK.of trivial) (by kernel_rfl) Zqz Zwc rfl (by decide) (by decide) rfl (by decide) rfl Z57 (fun x=>by kernel_rfl)
abbrev Znt:Shape:={ sl:=[(1,(.hole (.int .i64))),(3,(.ptr 0 [])),(5,(.ptr 1 [])),(6,(.ptr 2 [])),(7,(.sl 3)),(13,(.hole y26)),(14,(.hole (.int .i64))),(15,(.hole (.int .i64)))],bl:=[.var (.hole y46),.var (.hole y23),.var (.pr (.pr (.pr .nl (.pr (.hole (.int .i64)) (.pr (.hole (.int .i64)) (.pr (.hole (.int .i64)) (.pr .nl .nl))))) (.pr .nl (.pr .nl (.pr .nl (.pr .nl (.hole y4)))))) .nl),.row y23],ts:=[(.int .i64),y26,(.int .i64),(.int .i64),y46,y23,(.int .i64),(.int .i64),(.int .i64),y4,y26],pin:=0 }
abbrev Zm7:List (ETag × Shape):=[(.exit 0,{ sl:=sl_40,bl:=[.var (.hole y46),.var (.pr (.pr (.pr .nl (.pr (.hole (.int .i64)) (.pr (.hole (.int .i64)) (.pr (.hole (.int .i64)) (.pr .nl .nl))))) (.pr .nl (.pr .nl (.pr .nl (.pr .nl (.hole y4)))))) .nl),.row y23],ts:=[y46,(.int .i64),(.int .i64),(.int .i64),y4,y26],pin:=0 })]
def Zcy (x:(Int × List T29 × Int × Int × T63 × (Int × T13) × Int × Int × Int × (Int × Int) × List T29)):Option ((Int × List T29 × Int × Int × T63 × (Int × T13) × Int × Int × Int × (Int × Int) × List T29) ⊕ (T63 × Int × Int × Int × (Int × Int) × List T29)) :=
 bif (decide (x.2.2.2.1 < x.2.2.1)) then
 bif (inb x.2.2.2.1 (List.length x.2.1)) then
 bif (x.2.2.2.1 == x.1) then
 bif (fits ((List.length x.2.2.2.2.2.2.2.2.2.2)+(List.length (x.2.2.2.2.2.1 :: ([]:List (Int × T14)))))) then
 some (.inl (x.1,x.2.1,x.2.2.1,(IntKind.wrap .i64 (x.2.2.2.1+(1:Int))),x.2.2.2.2.1,x.2.2.2.2.2.1,x.2.2.2.2.2.2.1,x.2.2.2.2.2.2.2.1,x.2.2.2.2.2.2.2.2.1,x.2.2.2.2.2.2.2.2.2.1,(x.2.2.2.2.2.2.2.2.2.2++(x.2.2.2.2.2.1 :: ([]:List (Int × T14))))))
 else
 none
 else
 bif (fits ((List.length x.2.2.2.2.2.2.2.2.2.2)+(List.length ((getAt ((0:Int),(0:Int),([]:List T7)) x.2.1 (toN x.2.2.2.1)) :: ([]:List (Int × T14)))))) then
 some (.inl (x.1,x.2.1,x.2.2.1,(IntKind.wrap .i64 (x.2.2.2.1+(1:Int))),x.2.2.2.2.1,x.2.2.2.2.2.1,x.2.2.2.2.2.2.1,x.2.2.2.2.2.2.2.1,x.2.2.2.2.2.2.2.2.1,x.2.2.2.2.2.2.2.2.2.1,(x.2.2.2.2.2.2.2.2.2.2++((getAt ((0:Int),(0:Int),([]:List T7)) x.2.1 (toN x.2.2.2.1)) :: ([]:List (Int × T14))))))
 else
 none
 else
 none
 else
 some (.inr (x.2.2.2.2.1,x.2.2.2.2.2.2.1,x.2.2.2.2.2.2.2.1,x.2.2.2.2.2.2.2.2.1,x.2.2.2.2.2.2.2.2.2.1,x.2.2.2.2.2.2.2.2.2.2))
def Zic:Ctx:={ tb:=mkTb T2.tbl,fx:=[],sum:=[],nt:=33,pin:=0,nr:=true,ys:=[] }
theorem Zcz:CSound Tryz.prog ⟨33,0,true⟩ (.loop (loopOf 4 Tryz.f220)) (Yay Znt Zm7 (loop Zcy)) :=
 Y8c (C:=Zic) (ctxOK mixed tbl_ok rfl trivial trivial) (SumOK.of trivial) Znt Zm7 rfl rfl Zcy (fun x=>by kernel_rfl)
abbrev Zrj:Shape:={ sl:=[(0,(.hole y46)),(1,(.hole (.int .i64))),(2,(.hole y23))],bl:=[],ts:=[y46,(.int .i64),y23],pin:=0 }
abbrev Zww:Shape:={ sl:=sl_39,bl:=[],ts:=[y46],pin:=0 }
def Z6b (x:(T63 × Int × (Int × T13))):Option (T63) :=
 (loop Zcy (x.2.1,x.1.1.2.2.2.2.1,(((List.length x.1.1.2.2.2.2.1):Nat):Int),(0:Int),x.1,x.2.2,(0:Int),(0:Int),(0:Int),((0:Int),(0:Int)),([]:List (Int × T14)))).bind fun r27 =>
 some ((r27.1.1.1,r27.1.1.2.1,r27.1.1.2.2.1,r27.1.1.2.2.2.1,r27.2.2.2.2.2,r27.1.1.2.2.2.2.2),r27.1.2)
abbrev Z129:=Spec.shp Zrj Zww Z6b
def Zib:Ctx:={ tb:=mkTb T2.tbl,fx:=[],sum:=[(0,4,Yay Znt Zm7 (loop Zcy))],nt:=33,pin:=0,nr:=true,ys:=[] }
theorem Z6c:Sound Tryz.prog 220 (Z129) :=
 Sound.shp (C:=Zib) (fn:=Tryz.f220) (by kernel_rfl) (c:=bodyOf Tryz.f220) (by kernel_rfl) (by decide) (ctxOK mixed tbl_ok rfl trivial trivial) (SumOK.of ⟨(Yb0 (d:=.loop (loopOf 4 Tryz.f220)) (by kernel_rfl) Zcz),trivial⟩) (by kernel_rfl) Zrj Zww rfl (by decide) (by decide) rfl (by decide) rfl Z6b (fun x=>by kernel_rfl)
abbrev Zr9:Shape:={ sl:=sl_42,bl:=[],ts:=ts_18,pin:=0 }
abbrev Zwm:Shape:={ sl:=sl_39,bl:=[],ts:=[y46],pin:=0 }
def Z5r (x:T69):Option (T63) :=
 (Z6h (x.2.1,(13:Int),x.2.2.2.1)).bind fun r23 =>
 (Z6x (x.1,r23)).bind fun r24 =>
 bif (inb x.2.2.2.1 (List.length r24.1.2.2.2.2.1)) then
 (Z57 ((getAt ((0:Int),(0:Int),([]:List T7)) r24.1.2.2.2.2.1 (toN x.2.2.2.1)),x.2.1,(0:Int),x.1.1.2.2.2.2.2.1)).bind fun r25 =>
 bif (r25.2.2 != (0:Int)) then
 (Z71 (r24,x.2.1)).bind fun r26 =>
 some r26
 else
 (Z6b (r24,x.2.2.2.1,r25.1)).bind fun r26 =>
 bif (r25.2.1 == (0:Int)) then
 (Z69 (r26,x.2.1)).bind fun r27 =>
 some r27
 else
 bif (r25.2.1 == (1:Int)) then
 (Z71 (r26,x.2.1)).bind fun r27 =>
 some r27
 else
 (Z6x (r26,x.2.1,(15:Int),x.2.2.2.1,(0:Int),x.1.1.2.2.2.2.2.1)).bind fun r27 =>
 (Z6z (r27,x.2.1,x.2.2.2.2)).bind fun r28 =>
 some r28
 else
 none
abbrev Z11z:=Spec.shp Zr9 Zwm Z5r
def Zhx:Ctx:={ tb:=mkTb T2.tbl,fx:=[(53,[],Z12c),(52,[],Z12k),(219,[],Z11p),(183,[],Z12m),(220,[],Z129),(132,[],Z128),(51,[],Z12l)],sum:=[],nt:=66,pin:=0,nr:=true,ys:=[] }
theorem Z5s:Sound Tryz.prog 186 (Z11z) :=
 Sound.shp (C:=Zhx) (fn:=Tryz.f186) (by kernel_rfl) (c:=bodyOf Tryz.f186) (by kernel_rfl) (by decide) (ctxOK mixed tbl_ok rfl ⟨Z6i,Z6y,Z58,Z72,Z6c,Z6a,Z70,trivial⟩ trivial) (SumOK.of trivial) (by kernel_rfl) Zr9 Zwm rfl (by decide) (by decide) rfl (by decide) rfl Z5r (fun x=>by kernel_rfl)
abbrev Zr0:Shape:={ sl:=[(0,(.hole y23)),(1,(.hole (.int .i64)))],bl:=[],ts:=[y23,(.int .i64)],pin:=0 }
abbrev Zwd:Shape:={ sl:=[(0,(.hole y23)),(1,(.hole (.slice y5))),(2,(.hole .bool))],bl:=[],ts:=[y23,(.slice y5),.bool],pin:=0 }
def Z59 (x:((Int × T13) × Int)):Option ((Int × T13) × List (T7) × Bool) :=
 bif (x.1.1 != (1:Int)) then
 some (((0:Int),(0:Int),([]:List T7)),([]:List T7),false)
 else
 bif (x.1.2.1 != x.2) then
 some (((0:Int),(0:Int),([]:List T7)),([]:List T7),false)
 else
 some (((2:Int),(0:Int),([]:List T7)),x.1.2.2,true)
abbrev Z11q:=Spec.shp Zr0 Zwd Z59
def Zhh:Ctx:={ tb:=mkTb T2.tbl,fx:=[],sum:=[],nt:=20,pin:=0,nr:=true,ys:=[] }
theorem Z5a:Sound Tryz.prog 221 (Z11q) :=
 Sound.shp (C:=Zhh) (fn:=Tryz.f221) (by kernel_rfl) (c:=bodyOf Tryz.f221) (by kernel_rfl) (by decide) (ctxOK mixed tbl_ok rfl trivial trivial) (SumOK.of trivial) (by kernel_rfl) Zr0 Zwd rfl (by decide) (by decide) rfl (by decide) rfl Z59 (fun x=>by kernel_rfl)
abbrev Znp:Shape:={ sl:=[(3,(.ptr 0 [])),(5,(.ptr 1 [])),(6,(.ptr 2 [])),(42,(.hole (.slice y5))),(43,(.hole (.int .i64))),(44,(.hole (.int .i64)))],bl:=bl_28,ts:=[(.slice y5),(.int .i64),(.int .i64),y46,y5,(.int .i64),(.int .i64),(.int .i64),y4],pin:=0 }
abbrev Zm3:List (ETag × Shape):=[(.exit 0,{ sl:=[(3,(.ptr 0 [])),(6,(.ptr 1 []))],bl:=bl_29,ts:=[y46,(.int .i64),(.int .i64),(.int .i64),y4],pin:=0 })]
def Zcq (x:(List (T7) × Int × Int × T63 × T7 × Int × Int × Int × (Int × Int))):Option ((List (T7) × Int × Int × T63 × T7 × Int × Int × Int × (Int × Int)) ⊕ (T63 × Int × Int × Int × (Int × Int))) :=
 bif (decide (x.2.2.1 < x.2.1)) then
 bif (inb x.2.2.1 (List.length x.1)) then
 (Z6x (x.2.2.2.1,(getAt ((0:Int),(0:Int),(0:Int)) x.1 (toN x.2.2.1)).1,(15:Int),x.2.2.2.2.1.2.1,(0:Int),(getAt ((0:Int),(0:Int),(0:Int)) x.1 (toN x.2.2.1)).2.2)).bind fun r29 =>
 (Z61 (r29.1,(getAt ((0:Int),(0:Int),(0:Int)) x.1 (toN x.2.2.1)).1)).bind fun r30 =>
 (Z6z (r29,(getAt ((0:Int),(0:Int),(0:Int)) x.1 (toN x.2.2.1)).1,r30.2.2)).bind fun r31 =>
 some (.inl (x.1,x.2.1,(IntKind.wrap .i64 (x.2.2.1+(1:Int))),r31,x.2.2.2.2.1,x.2.2.2.2.2.1,x.2.2.2.2.2.2.1,x.2.2.2.2.2.2.2.1,x.2.2.2.2.2.2.2.2))
 else
 none
 else
 some (.inr (x.2.2.2.1,x.2.2.2.2.2.1,x.2.2.2.2.2.2.1,x.2.2.2.2.2.2.2.1,x.2.2.2.2.2.2.2.2))
def Zi0:Ctx:={ tb:=mkTb T2.tbl,fx:=[(221,[],Z11q),(220,[],Z129),(53,[],Z12c),(52,[],Z12k),(132,[],Z128),(55,[],Z124),(51,[],Z12l)],sum:=[],nt:=69,pin:=0,nr:=true,ys:=[] }
theorem Zcr:CSound Tryz.prog ⟨69,0,true⟩ (.loop (loopOf 8 Tryz.f187)) (Yay Znp Zm3 (loop Zcq)) :=
 Y8c (C:=Zi0) (ctxOK mixed tbl_ok rfl ⟨Z5a,Z6c,Z6i,Z6y,Z6a,Z62,Z70,trivial⟩ trivial) (SumOK.of trivial) Znp Zm3 rfl rfl Zcq (fun x=>by kernel_rfl)
abbrev Zrb:Shape:={ sl:=sl_42,bl:=[],ts:=ts_18,pin:=0 }
abbrev Zwo:Shape:={ sl:=sl_39,bl:=[],ts:=[y46],pin:=0 }
def Z5v (x:T69):Option (T63) :=
 bif (inb x.2.2.2.1 (List.length x.1.1.2.2.2.2.1)) then
 (Z59 ((getAt ((0:Int),(0:Int),([]:List T7)) x.1.1.2.2.2.2.1 (toN x.2.2.2.1)),x.2.1)).bind fun r23 =>
 bif (Bool.not r23.2.2) then
 some ((x.1.1.1,x.1.1.2.1,x.1.1.2.2.1,x.1.1.2.2.2.1,x.1.1.2.2.2.2.1,x.1.1.2.2.2.2.2.1,(3:Int)),x.1.2)
 else
 (Z6b (x.1,x.2.2.2.1,r23.1)).bind fun r24 =>
 (Z6h (x.2.1,(14:Int),x.2.2.2.1)).bind fun r25 =>
 (Z6x (r24,r25)).bind fun r26 =>
 (Z69 (r26,x.2.1)).bind fun r27 =>
 (loop Zcq (r23.2.1,(((List.length r23.2.1):Nat):Int),(0:Int),r27,x.2.2,(0:Int),(0:Int),(0:Int),(0:Int),(0:Int))).bind fun r28 =>
 some r28.1
 else
 none
abbrev Z121:=Spec.shp Zrb Zwo Z5v
def Zhz:Ctx:={ tb:=mkTb T2.tbl,fx:=[(221,[],Z11q),(220,[],Z129),(53,[],Z12c),(52,[],Z12k),(132,[],Z128),(55,[],Z124),(51,[],Z12l)],sum:=[(0,8,Yay Znp Zm3 (loop Zcq))],nt:=69,pin:=0,nr:=true,ys:=[] }
theorem Z5w:Sound Tryz.prog 187 (Z121) :=
 Sound.shp (C:=Zhz) (fn:=Tryz.f187) (by kernel_rfl) (c:=bodyOf Tryz.f187) (by kernel_rfl) (by decide) (ctxOK mixed tbl_ok rfl ⟨Z5a,Z6c,Z6i,Z6y,Z6a,Z62,Z70,trivial⟩ trivial) (SumOK.of ⟨(Yb0 (d:=.loop (loopOf 8 Tryz.f187)) (by kernel_rfl) Zcr),trivial⟩) (by kernel_rfl) Zrb Zwo rfl (by decide) (by decide) rfl (by decide) rfl Z5v (fun x=>by kernel_rfl)
abbrev Zrs:Shape:={ sl:=sl_42,bl:=[],ts:=ts_18,pin:=0 }
abbrev Zx5:Shape:={ sl:=sl_39,bl:=[],ts:=[y46],pin:=0 }
def Z6t (x:T69):Option (T63) :=
 bif (x.2.2.1 == (5:Int)) then
 (Z6v (x.1,x.2.1,x.2.2)).bind fun r22 =>
 some r22
 else
 bif (x.2.2.1 == (6:Int)) then
 (Z5x (x.1,x.2.1,x.2.2)).bind fun r22 =>
 some r22
 else
 bif (x.2.2.1 == (7:Int)) then
 (Z5r (x.1,x.2.1,x.2.2)).bind fun r22 =>
 some r22
 else
 (Z5v (x.1,x.2.1,x.2.2)).bind fun r22 =>
 some r22
abbrev Z12i:=Spec.shp Zrs Zx5 Z6t
def Zip:Ctx:={ tb:=mkTb T2.tbl,fx:=[(184,[],Z12j),(185,[],Z122),(186,[],Z11z),(187,[],Z121)],sum:=[],nt:=32,pin:=0,nr:=true,ys:=[] }
theorem Z6u:Sound Tryz.prog 136 (Z12i) :=
 Sound.shp (C:=Zip) (fn:=Tryz.f136) (by kernel_rfl) (c:=bodyOf Tryz.f136) (by kernel_rfl) (by decide) (ctxOK mixed tbl_ok rfl ⟨Z6w,Z5y,Z5s,Z5w,trivial⟩ trivial) (SumOK.of trivial) (by kernel_rfl) Zrs Zx5 rfl (by decide) (by decide) rfl (by decide) rfl Z6t (fun x=>by kernel_rfl)
abbrev Zr7:Shape:={ sl:=sl_42,bl:=[],ts:=ts_18,pin:=0 }
abbrev Zwk:Shape:={ sl:=sl_39,bl:=[],ts:=[y46],pin:=0 }
def Z5n (x:T69):Option (T63) :=
 bif ((((List.length x.1.1.2.1):Nat):Int) == (8:Int)) then
 some ((x.1.1.1,x.1.1.2.1,x.1.1.2.2.1,x.1.1.2.2.2.1,x.1.1.2.2.2.2.1,x.1.1.2.2.2.2.2.1,(4:Int)),x.1.2)
 else
 (Z6h (x.2.1,(1:Int),(((List.length x.1.1.2.1):Nat):Int))).bind fun r22 =>
 (Z6x (x.1,r22)).bind fun r23 =>
 (Z6x (r23,(((List.length x.1.1.2.1):Nat):Int),(0:Int),(0:Int),(0:Int),x.1.1.2.2.2.2.2.1)).bind fun r24 =>
 bif (fits ((List.length ([]:List T17))+(List.length r24.1.2.1))) then
 bif (fits ((List.length (([]:List T17)++r24.1.2.1))+(List.length ((x.2.2.2.1,(0:Int),(0:Int),false) :: ([]:List T17))))) then
 (Z6z (((r24.1.1,((([]:List T17)++r24.1.2.1)++((x.2.2.2.1,(0:Int),(0:Int),false) :: ([]:List T17))),r24.1.2.2),r24.2),(((List.length x.1.1.2.1):Nat):Int),(0:Int))).bind fun r25 =>
 (Z69 (r25,x.2.1)).bind fun r26 =>
 some r26
 else
 none
 else
 none
abbrev Z11x:=Spec.shp Zr7 Zwk Z5n
def Zhu:Ctx:={ tb:=mkTb T2.tbl,fx:=[(53,[],Z12c),(52,[],Z12k),(51,[2000000],Z12l),(132,[],Z128)],sum:=[],nt:=51,pin:=0,nr:=true,ys:=[] }
theorem Z5o:Sound Tryz.prog 137 (Z11x) :=
 Sound.shp (C:=Zhu) (fn:=Tryz.f137) (by kernel_rfl) (c:=bodyOf Tryz.f137) (by kernel_rfl) (by decide) (ctxOK mixed tbl_ok rfl ⟨Z6i,Z6y,Z70,Z6a,trivial⟩ trivial) (SumOK.of trivial) (by kernel_rfl) Zr7 Zwk rfl (by decide) (by decide) rfl (by decide) rfl Z5n (fun x=>by kernel_rfl)
abbrev Zrf:Shape:={ sl:=sl_42,bl:=[],ts:=ts_18,pin:=0 }
abbrev Zws:Shape:={ sl:=sl_39,bl:=[],ts:=[y46],pin:=0 }
def Z63 (x:T69):Option (T63) :=
 bif (x.2.2.1 == (12:Int)) then
 (Z6z (x.1,x.2.1,x.2.2.2.1)).bind fun r22 =>
 some r22
 else
 bif (inb x.2.1 (List.length x.1.1.2.1)) then
 bif (getAt ((0:Int),(0:Int),(0:Int),false) x.1.1.2.1 (toN x.2.1)).2.2.2 then
 (Z6z (x.1,x.2.1,x.2.2.2.1)).bind fun r22 =>
 some r22
 else
 (Z69 (x.1,x.2.1)).bind fun r22 =>
 some r22
 else
 none
abbrev Z125:=Spec.shp Zrf Zws Z63
def Zi5:Ctx:={ tb:=mkTb T2.tbl,fx:=[(51,[],Z12l),(132,[],Z128)],sum:=[],nt:=27,pin:=0,nr:=true,ys:=[] }
theorem Z64:Sound Tryz.prog 138 (Z125) :=
 Sound.shp (C:=Zi5) (fn:=Tryz.f138) (by kernel_rfl) (c:=bodyOf Tryz.f138) (by kernel_rfl) (by decide) (ctxOK mixed tbl_ok rfl ⟨Z70,Z6a,trivial⟩ trivial) (SumOK.of trivial) (by kernel_rfl) Zrf Zws rfl (by decide) (by decide) rfl (by decide) rfl Z63 (fun x=>by kernel_rfl)
abbrev Zr6:Shape:={ sl:=[(0,(.hole y46)),(1,(.hole y4))],bl:=[],ts:=[y46,y4],pin:=0 }
abbrev Zwj:Shape:={ sl:=sl_39,bl:=[],ts:=[y46],pin:=0 }
def Z5l (x:(T63 × (Int × Int))):Option (T63) :=
 (Z61 (x.1.1,x.2.1)).bind fun r20 =>
 bif (r20.1 == (0:Int)) then
 (Z69 (x.1,x.2.1)).bind fun r21 =>
 some r21
 else
 bif (decide (r20.1 ≤ (2:Int))) then
 (Z6d (x.1,x.2.1,r20)).bind fun r21 =>
 some r21
 else
 bif (r20.1 == (3:Int)) then
 (Z6p (x.1,x.2.1,r20)).bind fun r21 =>
 some r21
 else
 bif (r20.1 == (4:Int)) then
 (Z6l (x.1,x.2.1,x.2.2,r20)).bind fun r21 =>
 some r21
 else
 bif (decide (r20.1 ≤ (8:Int))) then
 (Z6t (x.1,x.2.1,r20)).bind fun r21 =>
 some r21
 else
 bif (r20.1 == (9:Int)) then
 (Z5n (x.1,x.2.1,r20)).bind fun r21 =>
 some r21
 else
 bif (decide (r20.1 ≤ (11:Int))) then
 (Z6h (x.2.1,(IntKind.wrap .i64 (r20.1+(6:Int))),r20.2.1)).bind fun r21 =>
 (Z6x (x.1,r21)).bind fun r22 =>
 (Z69 (r22,x.2.1)).bind fun r23 =>
 some r23
 else
 (Z63 (x.1,x.2.1,r20)).bind fun r21 =>
 some r21
abbrev Z11w:=Spec.shp Zr6 Zwj Z5l
def Zht:Ctx:={ tb:=mkTb T2.tbl,fx:=[(55,[],Z124),(132,[],Z128),(133,[],Z12a),(134,[],Z12g),(135,[],Z12e),(136,[],Z12i),(137,[],Z11x),(53,[],Z12c),(52,[],Z12k),(138,[],Z125)],sum:=[],nt:=81,pin:=0,nr:=true,ys:=[] }
theorem Z5m:Sound Tryz.prog 79 (Z11w) :=
 Sound.shp (C:=Zht) (fn:=Tryz.f79) (by kernel_rfl) (c:=bodyOf Tryz.f79) (by kernel_rfl) (by decide) (ctxOK mixed tbl_ok rfl ⟨Z62,Z6a,Z6e,Z6q,Z6m,Z6u,Z5o,Z6i,Z6y,Z64,trivial⟩ trivial) (SumOK.of trivial) (by kernel_rfl) Zr6 Zwj rfl (by decide) (by decide) rfl (by decide) rfl Z5l (fun x=>by kernel_rfl)
abbrev Zr5:Shape:={ sl:=[(0,(.hole y45)),(1,(.hole y4))],bl:=[],ts:=[y45,y4],pin:=0 }
abbrev Zwi:Shape:={ sl:=[(0,(.hole y45)),(1,(.hole y27))],bl:=[],ts:=[y45,y27],pin:=0 }
def Z5j (x:((T47 × T61) × (Int × Int))):Option T63 :=
 (Z5l ((x.1,([]:List T20)),x.2)).bind fun r19 =>
 (Z6r r19.1).bind fun r20 =>
 some (r20,r19.2)
abbrev Z11v:=Spec.shp Zr5 Zwi Z5j
def Zhs:Ctx:={ tb:=mkTb T2.tbl,fx:=[(79,[],Z11w),(54,[],Z12h)],sum:=[],nt:=16,pin:=0,nr:=true,ys:=[] }
theorem Z5k:Sound Tryz.prog 25 (Z11v) :=
 Sound.shp (C:=Zhs) (fn:=Tryz.f25) (by kernel_rfl) (c:=bodyOf Tryz.f25) (by kernel_rfl) (by decide) (ctxOK mixed tbl_ok rfl ⟨Z5m,Z6s,trivial⟩ trivial) (SumOK.of trivial) (by kernel_rfl) Zr5 Zwi rfl (by decide) (by decide) rfl (by decide) rfl Z5j (fun x=>by kernel_rfl)
abbrev Zn6:Shape:={ sl:=sl_32,bl:=bl_18,ts:=ts_16,pin:=0 }
abbrev Zlk:List (ETag × Shape):=[(.exit 0,{ sl:=[(1,(.ptr 0 [])),(2,(.ptr 1 [])),(3,(.sl 2))],bl:=bl_18,ts:=[y39,(.int .i64),(.int .i64),(.int .i64),(.slice y9)],pin:=0 })]
def Zbn (x:T55):Option (T55 ⊕ (T47 × Int × Int × Int × List (T12))) :=
 bif (decide (x.2.2.1 < x.2.1)) then
 bif (inb x.2.2.1 (List.length x.1)) then
 bif (sub3 (0:Int) (Min.min (((List.length (getAt (([]:List T0),false) x.1 (toN x.2.2.1)).1):Nat):Int) (6:Int)) (List.length (getAt (([]:List T0),false) x.1 (toN x.2.2.1)).1)) then
 bif (fits ((List.length x.2.2.2.2.2.2.2)+(List.length (((cut (getAt (([]:List T0),false) x.1 (toN x.2.2.1)).1 (toN (0:Int)) ((toN (Min.min (((List.length (getAt (([]:List T0),false) x.1 (toN x.2.2.1)).1):Nat):Int) (6:Int))) - (toN (0:Int)))),(getAt (([]:List T0),false) x.1 (toN x.2.2.1)).2) :: ([]:List T21))))) then
 some (.inl (x.1,x.2.1,(IntKind.wrap .i64 (x.2.2.1+(1:Int))),x.2.2.2.1,x.2.2.2.2.1,x.2.2.2.2.2.1,x.2.2.2.2.2.2.1,(x.2.2.2.2.2.2.2++(((cut (getAt (([]:List T0),false) x.1 (toN x.2.2.1)).1 (toN (0:Int)) ((toN (Min.min (((List.length (getAt (([]:List T0),false) x.1 (toN x.2.2.1)).1):Nat):Int) (6:Int))) - (toN (0:Int)))),(getAt (([]:List T0),false) x.1 (toN x.2.2.1)).2) :: ([]:List T21)))))
 else
 none
 else
 none
 else
 none
 else
 some (.inr (x.2.2.2.1,x.2.2.2.2.1,x.2.2.2.2.2.1,x.2.2.2.2.2.2.1,x.2.2.2.2.2.2.2))
def Zgh:Ctx:={ tb:=mkTb T2.tbl,fx:=[],sum:=[],nt:=68,pin:=0,nr:=true,ys:=[] }
theorem Zbo:CSound Tryz.prog ⟨68,0,true⟩ (.loop (loopOf 5 Tryz.f27)) (Yay Zn6 Zlk (loop Zbn)) :=
 Y8c (C:=Zgh) (ctxOK mixed tbl_ok rfl trivial trivial) (SumOK.of trivial) Zn6 Zlk rfl rfl Zbn (fun x=>by kernel_rfl)
abbrev Zn5:Shape:={ sl:=sl_33,bl:=bl_19,ts:=ts_17,pin:=0 }
abbrev Zlj:List (ETag × Shape):=[(.exit 2,{ sl:=[(1,(.ptr 0 [])),(2,(.ptr 1 [])),(3,(.sl 2)),(6,(.sl 3))],bl:=bl_19,ts:=[y39,(.int .i64),(.int .i64),(.int .i64),(.slice y9),y10],pin:=0 })]
def Zbl (x:T59):Option (T59 ⊕ (T47 × Int × Int × Int × List (T12) × List (List (T7)))) :=
 bif (decide (x.2.2.1 < x.2.1)) then
 bif (inb x.2.2.1 (List.length x.1)) then
 bif (sub3 (0:Int) (Min.min (((List.length (getAt ([]:List T7) x.1 (toN x.2.2.1))):Nat):Int) (30:Int)) (List.length (getAt ([]:List T7) x.1 (toN x.2.2.1)))) then
 bif (fits ((List.length x.2.2.2.2.2.2.2.2)+(List.length ((cut (getAt ([]:List T7) x.1 (toN x.2.2.1)) (toN (0:Int)) ((toN (Min.min (((List.length (getAt ([]:List T7) x.1 (toN x.2.2.1))):Nat):Int) (30:Int))) - (toN (0:Int)))) :: ([]:List (List T7)))))) then
 some (.inl (x.1,x.2.1,(IntKind.wrap .i64 (x.2.2.1+(1:Int))),x.2.2.2.1,x.2.2.2.2.1,x.2.2.2.2.2.1,x.2.2.2.2.2.2.1,x.2.2.2.2.2.2.2.1,(x.2.2.2.2.2.2.2.2++((cut (getAt ([]:List T7) x.1 (toN x.2.2.1)) (toN (0:Int)) ((toN (Min.min (((List.length (getAt ([]:List T7) x.1 (toN x.2.2.1))):Nat):Int) (30:Int))) - (toN (0:Int)))) :: ([]:List (List T7))))))
 else
 none
 else
 none
 else
 none
 else
 some (.inr (x.2.2.2.1,x.2.2.2.2.1,x.2.2.2.2.2.1,x.2.2.2.2.2.2.1,x.2.2.2.2.2.2.2.1,x.2.2.2.2.2.2.2.2))
def Zgg:Ctx:={ tb:=mkTb T2.tbl,fx:=[],sum:=[(0,5,Yay Zn6 Zlk (loop Zbn))],nt:=68,pin:=0,nr:=true,ys:=[] }
theorem Zbm:CSound Tryz.prog ⟨68,0,true⟩ (.loop (loopOf 12 Tryz.f27)) (Yay Zn5 Zlj (loop Zbl)) :=
 Y8c (C:=Zgg) (ctxOK mixed tbl_ok rfl trivial trivial) (SumOK.of ⟨(Yaz (by kernel_rfl)),trivial⟩) Zn5 Zlj rfl rfl Zbl (fun x=>by kernel_rfl)
abbrev Zqb:Shape:={ sl:=sl_6,bl:=[],ts:=[y39],pin:=0 }
abbrev Zvo:Shape:={ sl:=sl_6,bl:=[],ts:=[y39],pin:=0 }
def Z3u (x:(T47)):Option (T47) :=
 bif (sub3 (0:Int) (Min.min (((List.length x.1):Nat):Int) (6:Int)) (List.length x.1)) then
 bif (sub3 (0:Int) (Min.min (((List.length x.2.2.2.2.1):Nat):Int) (6:Int)) (List.length x.2.2.2.2.1)) then
 (loop Zbn ((cut x.2.2.2.2.1 (toN (0:Int)) ((toN (Min.min (((List.length x.2.2.2.2.1):Nat):Int) (6:Int))) - (toN (0:Int)))),(((List.length (cut x.2.2.2.2.1 (toN (0:Int)) ((toN (Min.min (((List.length x.2.2.2.2.1):Nat):Int) (6:Int))) - (toN (0:Int))))):Nat):Int),(0:Int),((cut x.1 (toN (0:Int)) ((toN (Min.min (((List.length x.1):Nat):Int) (6:Int))) - (toN (0:Int)))),x.2),(0:Int),(0:Int),(0:Int),([]:List T21))).bind fun r2 =>
 bif (sub3 (0:Int) (Min.min (((List.length r2.1.2.2.2.2.2):Nat):Int) (8:Int)) (List.length r2.1.2.2.2.2.2)) then
 (loop Zbl ((cut r2.1.2.2.2.2.2 (toN (0:Int)) ((toN (Min.min (((List.length r2.1.2.2.2.2.2):Nat):Int) (8:Int))) - (toN (0:Int)))),(((List.length (cut r2.1.2.2.2.2.2 (toN (0:Int)) ((toN (Min.min (((List.length r2.1.2.2.2.2.2):Nat):Int) (8:Int))) - (toN (0:Int))))):Nat):Int),(0:Int),r2.1,r2.2.1,r2.2.2.1,r2.2.2.2.1,r2.2.2.2.2,([]:List (List T7)))).bind fun r3 =>
 some (r3.1.1,r3.1.2.1,r3.1.2.2.1,r3.1.2.2.2.1,r3.2.2.2.2.1,r3.2.2.2.2.2)
 else
 none
 else
 none
 else
 none
abbrev Z111:=Spec.shp Zqb Zvo Z3u
def Zgf:Ctx:={ tb:=mkTb T2.tbl,fx:=[],sum:=[(0,5,Yay Zn6 Zlk (loop Zbn)),(0,12,Yay Zn5 Zlj (loop Zbl))],nt:=68,pin:=0,nr:=true,ys:=[] }
theorem Z3v:Sound Tryz.prog 27 (Z111) :=
 Sound.shp (C:=Zgf) (fn:=Tryz.f27) (by kernel_rfl) (c:=bodyOf Tryz.f27) (by kernel_rfl) (by decide) (ctxOK mixed tbl_ok rfl trivial trivial) (SumOK.of ⟨(Yb0 (d:=.loop (loopOf 5 Tryz.f27)) (by kernel_rfl) Zbo),(Yb0 (d:=.loop (loopOf 12 Tryz.f27)) (by kernel_rfl) Zbm),trivial⟩) (by kernel_rfl) Zqb Zvo rfl (by decide) (by decide) rfl (by decide) rfl Z3u (fun x=>by kernel_rfl)
abbrev Zsr:Shape:={ sl:=[(0,(.hole y39)),(1,(.hole (.int .i64)))],bl:=[],ts:=[y39,(.int .i64)],pin:=0 }
abbrev Zy4:Shape:={ sl:=sl_2,bl:=[],ts:=ts_2,pin:=0 }
def Z8r (x:(T47 × Int)):Option (Int) :=
 (Z77 x.1).bind fun r4 =>
 bif (Bool.not r4) then
 some (1:Int)
 else
 bif (decide (x.2 < (1:Int))) then
 some (2:Int)
 else
 bif (decide (x.2 > (400:Int))) then
 some (2:Int)
 else
 some (0:Int)
abbrev Z13g:=Spec.shp Zsr Zy4 Z8r
def Zjt:Ctx:={ tb:=mkTb T2.tbl,fx:=[(38,[],Z12p)],sum:=[],nt:=16,pin:=0,nr:=true,ys:=[] }
theorem Z8s:Sound Tryz.prog 80 (Z13g) :=
 Sound.shp (C:=Zjt) (fn:=Tryz.f80) (by kernel_rfl) (c:=bodyOf Tryz.f80) (by kernel_rfl) (by decide) (ctxOK mixed tbl_ok rfl ⟨Z78,trivial⟩ trivial) (SumOK.of trivial) (by kernel_rfl) Zsr Zy4 rfl (by decide) (by decide) rfl (by decide) rfl Z8r (fun x=>by kernel_rfl)
abbrev Zsv:Shape:={ sl:=[(0,(.hole y27))],bl:=[],ts:=[y27],pin:=0 }
abbrev Zy8:Shape:={ sl:=[(0,(.sl 0))],bl:=[.row y24],ts:=[y27],pin:=0 }
def Z8z (x:(List (T20))):Option (List (T20)) :=
 bif (@Nat.beq (List.length x) (0:Nat)) then
 amb (
 some ([]:List T20)) (
 bif (fits ((List.length ([]:List T20))+(List.length x))) then
 some (([]:List T20)++x)
 else
 none)
 else
 bif (fits ((List.length ([]:List T20))+(List.length x))) then
 some (([]:List T20)++x)
 else
 none
abbrev Z13k:=Spec.shp Zsv Zy8 Z8z
def Zjy:Ctx:={ tb:=mkTb T2.tbl,fx:=[],sum:=[],nt:=8,pin:=0,nr:=true,ys:=[] }
theorem Z90:Sound Tryz.prog 139 (Z13k) :=
 Sound.shp (C:=Zjy) (fn:=Tryz.f139) (by kernel_rfl) (c:=bodyOf Tryz.f139) (by kernel_rfl) (by decide) (ctxOK mixed tbl_ok rfl trivial trivial) (SumOK.of trivial) (by kernel_rfl) Zsv Zy8 rfl (by decide) (by decide) rfl (by decide) rfl Z8z (fun x=>by kernel_rfl)
abbrev Zss:Shape:={ sl:=sl_25,bl:=[.var (.hole (.one y0))],ts:=[(.int .i64),(.one y0)],pin:=0 }
abbrev Zy5:Shape:={ sl:=sl_2,bl:=[.var (.hole (.one y0))],ts:=[(.int .i64),(.one y0)],pin:=1 }
def Z8t (x:T3):Option T3 :=
 bif ((((List.length x.2):Nat):Int) == (0:Int)) then
 some ((0:Int),x.2)
 else
 bif (inb (0:Int) (List.length x.2)) then
 bif (x.1 != (0:Int)) then
 bif (sub3 (1:Int) (((List.length x.2):Nat):Int) (List.length x.2)) then
 bif (decide ((Int.tmod (getAt (0:Int) x.2 (toN (0:Int))) x.1) < (0:Int))) then
 some ((IntKind.wrap .i64 ((Int.tmod (getAt (0:Int) x.2 (toN (0:Int))) x.1)+x.1)),(cut x.2 (toN (1:Int)) ((toN (((List.length x.2):Nat):Int)) - (toN (1:Int)))))
 else
 some ((Int.tmod (getAt (0:Int) x.2 (toN (0:Int))) x.1),(cut x.2 (toN (1:Int)) ((toN (((List.length x.2):Nat):Int)) - (toN (1:Int)))))
 else
 none
 else
 none
 else
 none
abbrev Z13h:=Spec.shp Zss Zy5 Z8t
def Zju:Ctx:={ tb:=mkTb T2.tbl,fx:=[],sum:=[],nt:=34,pin:=1,nr:=true,ys:=[] }
theorem Z8u:Sound Tryz.prog 81 (Z13h) :=
 Sound.shp (C:=Zju) (fn:=Tryz.f81) (by kernel_rfl) (c:=bodyOf Tryz.f81) (by kernel_rfl) (by decide) (ctxOK mixed tbl_ok rfl trivial trivial) (SumOK.of trivial) (by kernel_rfl) Zss Zy5 rfl (by decide) (by decide) rfl (by decide) rfl Z8t (fun x=>by kernel_rfl)
abbrev Zo3:Shape:={ sl:=[(1,(.fn 81 (.cons (.ptr 0 []) .nil) .nil)),(6,(.ptr 1 [])),(8,(.ptr 2 [])),(11,(.ptr 3 [])),(12,(.sl 4)),(27,(.hole (.int .i64))),(28,(.hole (.int .i64)))],bl:=bl_31,ts:=[(.int .i64),(.int .i64),(.one y0),(.int .i64),y45,(.int .i64),y0,y27,(.slice y4)],pin:=1 }
abbrev Zmh:List (ETag × Shape):=[(.exit 0,{ sl:=[(6,(.ptr 1 [])),(8,(.ptr 2 [])),(11,(.ptr 3 [])),(12,(.sl 4))],bl:=bl_31,ts:=[(.one y0),(.int .i64),y45,(.int .i64),y0,y27,(.slice y4)],pin:=1 })]
def Zdi (x:(Int × Int × List Int × Int × (T47 × T61) × Int × List Int × List (T20) × List (Int × Int))):Option ((Int × Int × List Int × Int × (T47 × T61) × Int × List Int × List (T20) × List (Int × Int)) ⊕ (List Int × Int × (T47 × T61) × Int × List Int × List (T20) × List (Int × Int))) :=
 bif (decide (x.2.1 < x.1)) then
 bif (x.2.2.2.2.1.2.2.2.2.2.2 != (0:Int)) then
 some (.inr (x.2.2.1,x.2.2.2.1,x.2.2.2.2.1,x.2.2.2.2.2.1,x.2.2.2.2.2.2.1,x.2.2.2.2.2.2.2.1,x.2.2.2.2.2.2.2.2))
 else
 (Z16 x.2.2.2.2.1).bind fun r8 =>
 (Z8t ((((List.length r8):Nat):Int),x.2.2.1)).bind fun r9 =>
 bif (inb r9.1 (List.length r8)) then
 (Z1a (x.2.2.2.2.1,(getAt ((0:Int),(0:Int)) r8 (toN r9.1)))).bind fun r10 =>
 bif (fits ((List.length x.2.2.2.2.2.2.2.1)+(List.length r10.2.1))) then
 bif (fits ((List.length x.2.2.2.2.2.2.2.2)+(List.length ((getAt ((0:Int),(0:Int)) r8 (toN r9.1)) :: ([]:List (Int × Int)))))) then
 bif (fits ((List.length x.2.2.2.2.2.2.1)+(List.length ((((List.length r8):Nat):Int) :: ([]:List Int))))) then
 some (.inl (x.1,(IntKind.wrap .i64 (x.2.1+(1:Int))),r9.2,x.2.2.2.1,r10.1,x.2.2.2.2.2.1,(x.2.2.2.2.2.2.1++((((List.length r8):Nat):Int) :: ([]:List Int))),(x.2.2.2.2.2.2.2.1++r10.2.1),(x.2.2.2.2.2.2.2.2++((getAt ((0:Int),(0:Int)) r8 (toN r9.1)) :: ([]:List (Int × Int))))))
 else
 none
 else
 none
 else
 none
 else
 none
 else
 some (.inr (x.2.2.1,x.2.2.2.1,x.2.2.2.2.1,x.2.2.2.2.2.1,x.2.2.2.2.2.2.1,x.2.2.2.2.2.2.2.1,x.2.2.2.2.2.2.2.2))
def Zjw:Ctx:={ tb:=mkTb T2.tbl,fx:=[(14,[],Zzr),(139,[],Z13k),(22,[],Zzq),(81,[],Z13h),(23,[],Zzs)],sum:=[],nt:=76,pin:=1,nr:=true,ys:=[] }
theorem Zdj:CSound Tryz.prog ⟨76,1,true⟩ (.loop (loopOf 6 Tryz.f82)) (Yay Zo3 Zmh (loop Zdi)) :=
 Y8c (C:=Zjw) (ctxOK mixed tbl_ok rfl ⟨Z19,Z90,Z17,Z8u,Z1b,trivial⟩ trivial) (SumOK.of trivial) Zo3 Zmh rfl rfl Zdi (fun x=>by kernel_rfl)
abbrev Zst:Shape:={ sl:=[(0,(.hole y39)),(1,(.fn 81 (.cons (.ptr 0 []) .nil) .nil)),(2,(.hole (.int .i64)))],bl:=[.var (.hole (.one y0))],ts:=[y39,(.int .i64),(.one y0)],pin:=0 }
abbrev Zy6:Shape:={ sl:=[(0,(.hole y38)),(1,(.hole y0))],bl:=[.var (.hole (.one y0))],ts:=[y38,y0,(.one y0)],pin:=1 }
def Z8v (x:(T47 × Int × List Int)):Option ((Int × T36) × List Int × List Int) :=
 (Z18 x.1).bind fun r5 =>
 (Z8z r5.2.1).bind fun r6 =>
 (loop Zdi (x.2.1,(0:Int),x.2.2,(0:Int),r5.1,(0:Int),([]:List Int),r6,([]:List (Int × Int)))).bind fun r7 =>
 bif (r7.2.2.1.2.2.2.2.2.2 == (0:Int)) then
 some (((5:Int),r7.2.2.2.2.2.1,r7.2.2.2.2.2.2),r7.2.2.2.2.1,r7.1)
 else
 some ((r7.2.2.1.2.2.2.2.2.2,r7.2.2.2.2.2.1,r7.2.2.2.2.2.2),r7.2.2.2.2.1,r7.1)
abbrev Z13i:=Spec.shp Zst Zy6 Z8v
def Zjv:Ctx:={ tb:=mkTb T2.tbl,fx:=[(14,[],Zzr),(139,[],Z13k),(22,[],Zzq),(81,[],Z13h),(23,[],Zzs)],sum:=[(0,6,Yay Zo3 Zmh (loop Zdi))],nt:=76,pin:=1,nr:=true,ys:=[] }
theorem Z8w:Sound Tryz.prog 82 (Z13i) :=
 Sound.shp (C:=Zjv) (fn:=Tryz.f82) (by kernel_rfl) (c:=bodyOf Tryz.f82) (by kernel_rfl) (by decide) (ctxOK mixed tbl_ok rfl ⟨Z19,Z90,Z17,Z8u,Z1b,trivial⟩ trivial) (SumOK.of ⟨(Yb0 (d:=.loop (loopOf 6 Tryz.f82)) (by kernel_rfl) Zdj),trivial⟩) (by kernel_rfl) Zst Zy6 rfl (by decide) (by decide) rfl (by decide) rfl Z8v (fun x=>by kernel_rfl)
abbrev Zsp:Shape:={ sl:=sl_43,bl:=[],ts:=[y39,y0,(.int .i64)],pin:=0 }
abbrev Zy2:Shape:={ sl:=[(0,(.hole y38)),(1,(.hole (.int .i64)))],bl:=[],ts:=[y38,(.int .i64)],pin:=0 }
def Z8n (x:T51):Option ((Int × T36) × Int) :=
 (Z8r (x.1,x.2.2)).bind fun r3 =>
 bif (r3 != (0:Int)) then
 some (((0:Int),([]:List T20),([]:List (Int × Int))),r3)
 else
 (Z8v (x.1,x.2.2,x.2.1)).bind fun r4 =>
 some (r4.1,(0:Int))
abbrev Z13e:=Spec.shp Zsp Zy2 Z8n
def Zjr:Ctx:={ tb:=mkTb T2.tbl,fx:=[(80,[],Z13g),(82,[81],Z13i)],sum:=[],nt:=31,pin:=0,nr:=true,ys:=[] }
theorem Z8o:Sound Tryz.prog 28 (Z13e) :=
 Sound.shp (C:=Zjr) (fn:=Tryz.f28) (by kernel_rfl) (c:=bodyOf Tryz.f28) (by kernel_rfl) (by decide) (ctxOK mixed tbl_ok rfl ⟨Z8s,Z8w,trivial⟩ trivial) (SumOK.of trivial) (by kernel_rfl) Zsp Zy2 rfl (by decide) (by decide) rfl (by decide) rfl Z8n (fun x=>by kernel_rfl)
abbrev Zsq:Shape:={ sl:=sl_43,bl:=[],ts:=[y39,y0,(.int .i64)],pin:=0 }
abbrev Zy3:Shape:={ sl:=sl_16,bl:=[],ts:=[y0,(.int .i64)],pin:=0 }
def Z8p (x:T51):Option T2 :=
 (Z8r (x.1,x.2.2)).bind fun r4 =>
 bif (r4 != (0:Int)) then
 some (([]:List Int),r4)
 else
 (Z8v (x.1,x.2.2,x.2.1)).bind fun r5 =>
 some (r5.2.1,(0:Int))
abbrev Z13f:=Spec.shp Zsq Zy3 Z8p
def Zjs:Ctx:={ tb:=mkTb T2.tbl,fx:=[(80,[],Z13g),(82,[81],Z13i)],sum:=[],nt:=28,pin:=0,nr:=true,ys:=[] }
theorem Z8q:Sound Tryz.prog 31 (Z13f) :=
 Sound.shp (C:=Zjs) (fn:=Tryz.f31) (by kernel_rfl) (c:=bodyOf Tryz.f31) (by kernel_rfl) (by decide) (ctxOK mixed tbl_ok rfl ⟨Z8s,Z8w,trivial⟩ trivial) (SumOK.of trivial) (by kernel_rfl) Zsq Zy3 rfl (by decide) (by decide) rfl (by decide) rfl Z8p (fun x=>by kernel_rfl)
abbrev Zqc:Shape:={ sl:=[],bl:=[],ts:=[],pin:=0 }
abbrev Zvp:Shape:={ sl:=sl_6,bl:=[],ts:=[y39],pin:=0 }
def Z3w (x:Unit):Option (T47) :=
 some (((0:Int) :: ([]:List Int)),(0:Int),(0:Int),(0:Int),([]:List T21),((((9:Int),(1:Int),(0:Int)) :: (((2:Int),(0:Int),(0:Int)) :: ([]:List T7))) :: ((((1:Int),(0:Int),(0:Int)) :: ([]:List T7)) :: ([]:List (List T7)))))
abbrev Z112:=Spec.shp Zqc Zvp Z3w
def Zgi:Ctx:={ tb:=mkTb T2.tbl,fx:=[],sum:=[],nt:=9,pin:=0,nr:=true,ys:=[] }
theorem Z3x:Sound Tryz.prog 83 (Z112) :=
 Sound.shp (C:=Zgi) (fn:=Tryz.f83) (by kernel_rfl) (c:=bodyOf Tryz.f83) (by kernel_rfl) (by decide) (ctxOK mixed tbl_ok rfl trivial trivial) (SumOK.of trivial) (by kernel_rfl) Zqc Zvp rfl (by decide) (by decide) rfl (by decide) rfl Z3w (fun x=>by kernel_rfl)
abbrev Zqa:Shape:={ sl:=[],bl:=[],ts:=[],pin:=0 }
abbrev Zvn:Shape:={ sl:=sl_1,bl:=[],ts:=ts_1,pin:=0 }
def Z3s (x:Unit):Option (Bool) :=
 (Z3w ()).bind fun r6 =>
 (Z8n (r6,([]:List Int),(9:Int))).bind fun r7 =>
 bif (r7.2 == (0:Int)) then
 bif (r7.1.1 == (1:Int)) then
 bif ((((List.length r7.1.2.1):Nat):Int) == (7:Int)) then
 bif ((((List.length r7.1.2.2):Nat):Int) == (3:Int)) then
 bif (inb (2:Int) (List.length r7.1.2.2)) then
 some ((getAt ((0:Int),(0:Int)) r7.1.2.2 (toN (2:Int))).1 == (1:Int))
 else
 none
 else
 some false
 else
 some false
 else
 some false
 else
 some false
abbrev Z110:=Spec.shp Zqa Zvn Z3s
def Zge:Ctx:={ tb:=mkTb T2.tbl,fx:=[(83,[],Z112),(28,[],Z13e)],sum:=[],nt:=35,pin:=0,nr:=true,ys:=[] }
theorem Z3t:Sound Tryz.prog 29 (Z110) :=
 Sound.shp (C:=Zge) (fn:=Tryz.f29) (by kernel_rfl) (c:=bodyOf Tryz.f29) (by kernel_rfl) (by decide) (ctxOK mixed tbl_ok rfl ⟨Z3x,Z8o,trivial⟩ trivial) (SumOK.of trivial) (by kernel_rfl) Zqa Zvn rfl (by decide) (by decide) rfl (by decide) rfl Z3s (fun x=>by kernel_rfl)
abbrev Zry:Shape:={ sl:=[(0,(.hole y38)),(1,(.hole y38))],bl:=[],ts:=[y38,y38],pin:=0 }
abbrev Zxb:Shape:={ sl:=sl_1,bl:=[],ts:=ts_1,pin:=0 }
def Z75 (x:((Int × T36) × (Int × T36))):Option (Bool) :=
 bif (x.1.1 == x.2.1) then
 (Z5d (x.1.2.1,x.2.2.1)).bind fun r7 =>
 bif r7 then
 (Z5h (x.1.2.2,x.2.2.2)).bind fun r8 =>
 some r8
 else
 some false
 else
 some false
abbrev Z12o:=Spec.shp Zry Zxb Z75
def Ziw:Ctx:={ tb:=mkTb T2.tbl,fx:=[(19,[],Z11s),(21,[],Z11u)],sum:=[],nt:=24,pin:=0,nr:=true,ys:=[] }
theorem Z76:Sound Tryz.prog 30 (Z12o) :=
 Sound.shp (C:=Ziw) (fn:=Tryz.f30) (by kernel_rfl) (c:=bodyOf Tryz.f30) (by kernel_rfl) (by decide) (ctxOK mixed tbl_ok rfl ⟨Z5e,Z5i,trivial⟩ trivial) (SumOK.of trivial) (by kernel_rfl) Zry Zxb rfl (by decide) (by decide) rfl (by decide) rfl Z75 (fun x=>by kernel_rfl)
abbrev Zny:Shape:={ sl:=[(1,(.hole y0)),(2,(.hole (.int .i64))),(6,(.ptr 0 [])),(7,(.ptr 1 [])),(9,(.sl 2)),(10,(.sl 3)),(11,(.sl 4)),(12,(.hole (.int .i64)))],bl:=bl_32,ts:=[y0,(.int .i64),(.int .i64),(.int .i64),y45,y27,(.slice y4),y0],pin:=0 }
abbrev Zmc:List (ETag × Shape):=[(.exit 0,{ sl:=[(6,(.ptr 0 [])),(7,(.ptr 1 [])),(9,(.sl 2)),(10,(.sl 3)),(11,(.sl 4))],bl:=bl_32,ts:=[(.int .i64),y45,y27,(.slice y4),y0],pin:=0 })]
def Zd8 (x:(List Int × Int × Int × Int × (T47 × T61) × List (T20) × List (Int × Int) × List Int)):Option ((List Int × Int × Int × Int × (T47 × T61) × List (T20) × List (Int × Int) × List Int) ⊕ (Int × (T47 × T61) × List (T20) × List (Int × Int) × List Int)) :=
 bif (decide (x.2.2.1 < x.2.1)) then
 bif (x.2.2.2.2.1.2.2.2.2.2.2 == (0:Int)) then
 (Z5b x.2.2.2.2.1).bind fun r8 =>
 bif (decide (x.2.2.1 < (((List.length x.1):Nat):Int))) then
 bif (inb x.2.2.1 (List.length x.1)) then
 bif ((((List.length r8):Nat):Int) != (0:Int)) then
 bif ((((List.length r8):Nat):Int) != (0:Int)) then
 bif (inb (Int.tmod (IntKind.wrap .i64 ((Int.tmod (getAt (0:Int) x.1 (toN x.2.2.1)) (((List.length r8):Nat):Int))+(((List.length r8):Nat):Int))) (((List.length r8):Nat):Int)) (List.length r8)) then
 (Z5j (x.2.2.2.2.1,(getAt ((0:Int),(0:Int)) r8 (toN (Int.tmod (IntKind.wrap .i64 ((Int.tmod (getAt (0:Int) x.1 (toN x.2.2.1)) (((List.length r8):Nat):Int))+(((List.length r8):Nat):Int))) (((List.length r8):Nat):Int)))))).bind fun r9 =>
 bif (fits ((List.length x.2.2.2.2.2.1)+(List.length r9.2))) then
 bif (inb (Int.tmod (IntKind.wrap .i64 ((Int.tmod (getAt (0:Int) x.1 (toN x.2.2.1)) (((List.length r8):Nat):Int))+(((List.length r8):Nat):Int))) (((List.length r8):Nat):Int)) (List.length r8)) then
 bif (fits ((List.length x.2.2.2.2.2.2.1)+(List.length ((getAt ((0:Int),(0:Int)) r8 (toN (Int.tmod (IntKind.wrap .i64 ((Int.tmod (getAt (0:Int) x.1 (toN x.2.2.1)) (((List.length r8):Nat):Int))+(((List.length r8):Nat):Int))) (((List.length r8):Nat):Int)))) :: ([]:List (Int × Int)))))) then
 bif (fits ((List.length x.2.2.2.2.2.2.2)+(List.length ((((List.length r8):Nat):Int) :: ([]:List Int))))) then
 some (.inl (x.1,x.2.1,(IntKind.wrap .i64 (x.2.2.1+(1:Int))),x.2.2.2.1,r9.1,(x.2.2.2.2.2.1++r9.2),(x.2.2.2.2.2.2.1++((getAt ((0:Int),(0:Int)) r8 (toN (Int.tmod (IntKind.wrap .i64 ((Int.tmod (getAt (0:Int) x.1 (toN x.2.2.1)) (((List.length r8):Nat):Int))+(((List.length r8):Nat):Int))) (((List.length r8):Nat):Int)))) :: ([]:List (Int × Int)))),(x.2.2.2.2.2.2.2++((((List.length r8):Nat):Int) :: ([]:List Int)))))
 else
 none
 else
 none
 else
 none
 else
 none
 else
 none
 else
 none
 else
 none
 else
 none
 else
 bif (inb (0:Int) (List.length r8)) then
 (Z5j (x.2.2.2.2.1,(getAt ((0:Int),(0:Int)) r8 (toN (0:Int))))).bind fun r9 =>
 bif (fits ((List.length x.2.2.2.2.2.1)+(List.length r9.2))) then
 bif (inb (0:Int) (List.length r8)) then
 bif (fits ((List.length x.2.2.2.2.2.2.1)+(List.length ((getAt ((0:Int),(0:Int)) r8 (toN (0:Int))) :: ([]:List (Int × Int)))))) then
 bif (fits ((List.length x.2.2.2.2.2.2.2)+(List.length ((((List.length r8):Nat):Int) :: ([]:List Int))))) then
 some (.inl (x.1,x.2.1,(IntKind.wrap .i64 (x.2.2.1+(1:Int))),x.2.2.2.1,r9.1,(x.2.2.2.2.2.1++r9.2),(x.2.2.2.2.2.2.1++((getAt ((0:Int),(0:Int)) r8 (toN (0:Int))) :: ([]:List (Int × Int)))),(x.2.2.2.2.2.2.2++((((List.length r8):Nat):Int) :: ([]:List Int)))))
 else
 none
 else
 none
 else
 none
 else
 none
 else
 none
 else
 some (.inr (x.2.2.2.1,x.2.2.2.2.1,x.2.2.2.2.2.1,x.2.2.2.2.2.2.1,x.2.2.2.2.2.2.2))
 else
 some (.inr (x.2.2.2.1,x.2.2.2.2.1,x.2.2.2.2.2.1,x.2.2.2.2.2.2.1,x.2.2.2.2.2.2.2))
def Ziv:Ctx:={ tb:=mkTb T2.tbl,fx:=[(18,[],Z11t),(20,[],Z11r),(25,[],Z11v)],sum:=[],nt:=93,pin:=0,nr:=true,ys:=[] }
theorem Zd9:CSound Tryz.prog ⟨93,0,true⟩ (.loop (loopOf 8 Tryz.f32)) (Yay Zny Zmc (loop Zd8)) :=
 Y8c (C:=Ziv) (ctxOK mixed tbl_ok rfl ⟨Z5g,Z5c,Z5k,trivial⟩ trivial) (SumOK.of trivial) Zny Zmc rfl rfl Zd8 (fun x=>by kernel_rfl)
abbrev Zrx:Shape:={ sl:=sl_43,bl:=[],ts:=[y39,y0,(.int .i64)],pin:=0 }
abbrev Zxa:Shape:={ sl:=[(0,(.hole (.pair y38 y0)))],bl:=[],ts:=[(.pair y38 y0)],pin:=0 }
def Z73 (x:T51):Option ((Int × T36) × List Int) :=
 (Z5f x.1).bind fun r6 =>
 bif (fits ((List.length ([]:List T20))+(List.length r6.2))) then
 (loop Zd8 (x.2.1,x.2.2,(0:Int),(0:Int),r6.1,(([]:List T20)++r6.2),([]:List (Int × Int)),([]:List Int))).bind fun r7 =>
 bif (r7.2.1.2.2.2.2.2.2 == (0:Int)) then
 some (((5:Int),r7.2.2.1,r7.2.2.2.1),r7.2.2.2.2)
 else
 some ((r7.2.1.2.2.2.2.2.2,r7.2.2.1,r7.2.2.2.1),r7.2.2.2.2)
 else
 none
abbrev Z12n:=Spec.shp Zrx Zxa Z73
def Ziu:Ctx:={ tb:=mkTb T2.tbl,fx:=[(18,[],Z11t),(20,[],Z11r),(25,[],Z11v)],sum:=[(0,8,Yay Zny Zmc (loop Zd8))],nt:=93,pin:=0,nr:=true,ys:=[] }
theorem Z74:Sound Tryz.prog 32 (Z12n) :=
 Sound.shp (C:=Ziu) (fn:=Tryz.f32) (by kernel_rfl) (c:=bodyOf Tryz.f32) (by kernel_rfl) (by decide) (ctxOK mixed tbl_ok rfl ⟨Z5g,Z5c,Z5k,trivial⟩ trivial) (SumOK.of ⟨(Yb0 (d:=.loop (loopOf 8 Tryz.f32)) (by kernel_rfl) Zd9),trivial⟩) (by kernel_rfl) Zrx Zxa rfl (by decide) (by decide) rfl (by decide) rfl Z73 (fun x=>by kernel_rfl)
abbrev Zn7:Shape:={ sl:=[(0,(.hole y0)),(1,(.hole y0)),(12,(.hole (.int .i64))),(13,(.hole (.int .i64)))],bl:=[],ts:=[y0,y0,(.int .i64),(.int .i64)],pin:=0 }
abbrev Zll:List (ETag × Shape):=[(.ret,{ sl:=sl_35,bl:=[],ts:=ts_1,pin:=0 }),(.exit 0,{ sl:=[],bl:=[],ts:=[],pin:=0 })]
def Zbp (x:T10):Option (T10 ⊕ ((Bool) ⊕ Unit)) :=
 bif (decide (x.2.2.2 < x.2.2.1)) then
 bif (inb x.2.2.2 (List.length x.1)) then
 bif (inb x.2.2.2 (List.length x.2.1)) then
 bif ((getAt (0:Int) x.1 (toN x.2.2.2)) != (getAt (0:Int) x.2.1 (toN x.2.2.2))) then
 some (.inr (.inl false))
 else
 some (.inl (x.1,x.2.1,x.2.2.1,(IntKind.wrap .i64 (x.2.2.2+(1:Int)))))
 else
 none
 else
 none
 else
 some (.inr (.inr ()))
def Zgk:Ctx:={ tb:=mkTb T2.tbl,fx:=[],sum:=[],nt:=26,pin:=0,nr:=true,ys:=[] }
theorem Zbq:CSound Tryz.prog ⟨26,0,true⟩ (.loop (loopOf 5 Tryz.f33)) (Yay Zn7 Zll (loop Zbp)) :=
 Y8c (C:=Zgk) (ctxOK mixed tbl_ok rfl trivial trivial) (SumOK.of trivial) Zn7 Zll rfl rfl Zbp (fun x=>by kernel_rfl)
abbrev Zqd:Shape:={ sl:=[(0,(.hole y0)),(1,(.hole y0))],bl:=[],ts:=[y0,y0],pin:=0 }
abbrev Zvq:Shape:={ sl:=sl_1,bl:=[],ts:=ts_1,pin:=0 }
def Z3y (x:(List Int × List Int)):Option (Bool) :=
 bif ((((List.length x.1):Nat):Int) != (((List.length x.2):Nat):Int)) then
 some false
 else
 (loop Zbp (x.1,x.2,(((List.length x.1):Nat):Int),(0:Int))).bind fun r9 =>
 match r9 with
 | .inl y10 =>
 some y10
 | .inr y10 =>
 some true
abbrev Z113:=Spec.shp Zqd Zvq Z3y
def Zgj:Ctx:={ tb:=mkTb T2.tbl,fx:=[],sum:=[(0,5,Yay Zn7 Zll (loop Zbp))],nt:=26,pin:=0,nr:=true,ys:=[] }
theorem Z3z:Sound Tryz.prog 33 (Z113) :=
 Sound.shp (C:=Zgj) (fn:=Tryz.f33) (by kernel_rfl) (c:=bodyOf Tryz.f33) (by kernel_rfl) (by decide) (ctxOK mixed tbl_ok rfl trivial trivial) (SumOK.of ⟨(Yb0 (d:=.loop (loopOf 5 Tryz.f33)) (by kernel_rfl) Zbq),trivial⟩) (by kernel_rfl) Zqd Zvq rfl (by decide) (by decide) rfl (by decide) rfl Z3y (fun x=>by kernel_rfl)
def F_plaitlaw13_RunTells (x:T51):Option (Bool) :=
 (Z3u x.1).bind fun r1 =>
 bif (sub3 (0:Int) (Min.min (((List.length x.2.1):Nat):Int) (150:Int)) (List.length x.2.1)) then
 bif (decide (x.2.2 > (120:Int))) then
 bif (decide (x.2.2 ≤ (400:Int))) then
 (Z8n (r1,(cut x.2.1 (toN (0:Int)) ((toN (Min.min (((List.length x.2.1):Nat):Int) (150:Int))) - (toN (0:Int)))),(Int.tmod x.2.2 (120:Int)))).bind fun r2 =>
 (Z8p (r1,(cut x.2.1 (toN (0:Int)) ((toN (Min.min (((List.length x.2.1):Nat):Int) (150:Int))) - (toN (0:Int)))),(Int.tmod x.2.2 (120:Int)))).bind fun r3 =>
 (Z47 r1).bind fun r4 =>
 bif (Bool.not r4) then
 (Z3s ()).bind fun r5 =>
 bif r5 then
 bif (r2.2 == (1:Int)) then
 bif (r3.2 == (1:Int)) then
 bif ((((List.length r3.1):Nat):Int) == (0:Int)) then
 (Z75 (r2.1,(0:Int),([]:List T20),([]:List (Int × Int)))).bind fun r6 =>
 some r6
 else
 some false
 else
 some false
 else
 some false
 else
 some false
 else
 bif (decide ((Int.tmod x.2.2 (120:Int)) < (1:Int))) then
 (Z3s ()).bind fun r5 =>
 bif r5 then
 bif (r2.2 == (2:Int)) then
 bif (r3.2 == (2:Int)) then
 bif ((((List.length r3.1):Nat):Int) == (0:Int)) then
 (Z75 (r2.1,(0:Int),([]:List T20),([]:List (Int × Int)))).bind fun r6 =>
 some r6
 else
 some false
 else
 some false
 else
 some false
 else
 some false
 else
 bif (decide ((Int.tmod x.2.2 (120:Int)) > (400:Int))) then
 (Z3s ()).bind fun r5 =>
 bif r5 then
 bif (r2.2 == (2:Int)) then
 bif (r3.2 == (2:Int)) then
 bif ((((List.length r3.1):Nat):Int) == (0:Int)) then
 (Z75 (r2.1,(0:Int),([]:List T20),([]:List (Int × Int)))).bind fun r6 =>
 some r6
 else
 some false
 else
 some false
 else
 some false
 else
 some false
 else
 (Z73 (r1,(cut x.2.1 (toN (0:Int)) ((toN (Min.min (((List.length x.2.1):Nat):Int) (150:Int))) - (toN (0:Int)))),(Int.tmod x.2.2 (120:Int)))).bind fun r5 =>
 (Z3s ()).bind fun r6 =>
 bif r6 then
 bif (r2.2 == (0:Int)) then
 bif (r3.2 == (0:Int)) then
 (Z75 (r2.1,r5.1)).bind fun r7 =>
 bif r7 then
 (Z3y (r3.1,r5.2)).bind fun r8 =>
 some r8
 else
 some false
 else
 some false
 else
 some false
 else
 some false
 else
 (Z8n (r1,(cut x.2.1 (toN (0:Int)) ((toN (Min.min (((List.length x.2.1):Nat):Int) (150:Int))) - (toN (0:Int)))),x.2.2)).bind fun r2 =>
 (Z8p (r1,(cut x.2.1 (toN (0:Int)) ((toN (Min.min (((List.length x.2.1):Nat):Int) (150:Int))) - (toN (0:Int)))),x.2.2)).bind fun r3 =>
 (Z47 r1).bind fun r4 =>
 bif (Bool.not r4) then
 (Z3s ()).bind fun r5 =>
 bif r5 then
 bif (r2.2 == (1:Int)) then
 bif (r3.2 == (1:Int)) then
 bif ((((List.length r3.1):Nat):Int) == (0:Int)) then
 (Z75 (r2.1,(0:Int),([]:List T20),([]:List (Int × Int)))).bind fun r6 =>
 some r6
 else
 some false
 else
 some false
 else
 some false
 else
 some false
 else
 bif (decide (x.2.2 < (1:Int))) then
 (Z3s ()).bind fun r5 =>
 bif r5 then
 bif (r2.2 == (2:Int)) then
 bif (r3.2 == (2:Int)) then
 bif ((((List.length r3.1):Nat):Int) == (0:Int)) then
 (Z75 (r2.1,(0:Int),([]:List T20),([]:List (Int × Int)))).bind fun r6 =>
 some r6
 else
 some false
 else
 some false
 else
 some false
 else
 some false
 else
 bif (decide (x.2.2 > (400:Int))) then
 (Z3s ()).bind fun r5 =>
 bif r5 then
 bif (r2.2 == (2:Int)) then
 bif (r3.2 == (2:Int)) then
 bif ((((List.length r3.1):Nat):Int) == (0:Int)) then
 (Z75 (r2.1,(0:Int),([]:List T20),([]:List (Int × Int)))).bind fun r6 =>
 some r6
 else
 some false
 else
 some false
 else
 some false
 else
 some false
 else
 (Z73 (r1,(cut x.2.1 (toN (0:Int)) ((toN (Min.min (((List.length x.2.1):Nat):Int) (150:Int))) - (toN (0:Int)))),x.2.2)).bind fun r5 =>
 (Z3s ()).bind fun r6 =>
 bif r6 then
 bif (r2.2 == (0:Int)) then
 bif (r3.2 == (0:Int)) then
 (Z75 (r2.1,r5.1)).bind fun r7 =>
 bif r7 then
 (Z3y (r3.1,r5.2)).bind fun r8 =>
 some r8
 else
 some false
 else
 some false
 else
 some false
 else
 some false
 else
 (Z8n (r1,(cut x.2.1 (toN (0:Int)) ((toN (Min.min (((List.length x.2.1):Nat):Int) (150:Int))) - (toN (0:Int)))),x.2.2)).bind fun r2 =>
 (Z8p (r1,(cut x.2.1 (toN (0:Int)) ((toN (Min.min (((List.length x.2.1):Nat):Int) (150:Int))) - (toN (0:Int)))),x.2.2)).bind fun r3 =>
 (Z47 r1).bind fun r4 =>
 bif (Bool.not r4) then
 (Z3s ()).bind fun r5 =>
 bif r5 then
 bif (r2.2 == (1:Int)) then
 bif (r3.2 == (1:Int)) then
 bif ((((List.length r3.1):Nat):Int) == (0:Int)) then
 (Z75 (r2.1,(0:Int),([]:List T20),([]:List (Int × Int)))).bind fun r6 =>
 some r6
 else
 some false
 else
 some false
 else
 some false
 else
 some false
 else
 bif (decide (x.2.2 < (1:Int))) then
 (Z3s ()).bind fun r5 =>
 bif r5 then
 bif (r2.2 == (2:Int)) then
 bif (r3.2 == (2:Int)) then
 bif ((((List.length r3.1):Nat):Int) == (0:Int)) then
 (Z75 (r2.1,(0:Int),([]:List T20),([]:List (Int × Int)))).bind fun r6 =>
 some r6
 else
 some false
 else
 some false
 else
 some false
 else
 some false
 else
 bif (decide (x.2.2 > (400:Int))) then
 (Z3s ()).bind fun r5 =>
 bif r5 then
 bif (r2.2 == (2:Int)) then
 bif (r3.2 == (2:Int)) then
 bif ((((List.length r3.1):Nat):Int) == (0:Int)) then
 (Z75 (r2.1,(0:Int),([]:List T20),([]:List (Int × Int)))).bind fun r6 =>
 some r6
 else
 some false
 else
 some false
 else
 some false
 else
 some false
 else
 (Z73 (r1,(cut x.2.1 (toN (0:Int)) ((toN (Min.min (((List.length x.2.1):Nat):Int) (150:Int))) - (toN (0:Int)))),x.2.2)).bind fun r5 =>
 (Z3s ()).bind fun r6 =>
 bif r6 then
 bif (r2.2 == (0:Int)) then
 bif (r3.2 == (0:Int)) then
 (Z75 (r2.1,r5.1)).bind fun r7 =>
 bif r7 then
 (Z3y (r3.1,r5.2)).bind fun r8 =>
 some r8
 else
 some false
 else
 some false
 else
 some false
 else
 some false
 else
 none
def Zgd:Ctx:={ tb:=mkTb T2.tbl,fx:=[(27,[],Z111),(28,[],Z13e),(31,[],Z13f),(15,[],Z117),(29,[],Z110),(30,[],Z12o),(32,[],Z12n),(33,[],Z113)],sum:=[],nt:=101,pin:=0,nr:=true,ys:=[],rw:=[(1,[1])] }
theorem F_plaitlaw13_RunTells_ok:Sound Tryz.prog 8 (Spec.pure [y39,y0,(.int .i64)] [.bool] F_plaitlaw13_RunTells) :=
 Sound.pure (C:=Zgd) (fn:=Tryz.f8) (by kernel_rfl) (c:=bodyOf Tryz.f8) (by kernel_rfl) (by decide) (ctxOK mixed tbl_ok rfl ⟨Z3v,Z8o,Z8q,Z48,Z3t,Z76,Z74,Z3z,trivial⟩) (SumOK.of trivial) (by kernel_rfl) rfl _ _ (by decide) _ (fun x=>by kernel_rfl)
end
end Go.Proofs.YthdlpkdojipfhaaGreat.VX.VxM_M
set_option linter.unusedVariables false
set_option maxRecDepth 100000
namespace Go.Proofs.YthdlpkdojipfhaaGreat.VX.VxM_M
open Go.Proofs Go.Proofs.YthdlpkdojipfhaaGreat.VX.T2
noncomputable section
end
end Go.Proofs.YthdlpkdojipfhaaGreat.VX.VxM_M

