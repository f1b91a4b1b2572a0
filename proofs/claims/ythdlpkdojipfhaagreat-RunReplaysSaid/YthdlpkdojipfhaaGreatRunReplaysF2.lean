/- Laid for the law RunReplays. -/
import Derived.Test.YthdlpkdojipfhaaGreatRunReplaysF1
set_option linter.unusedVariables false
set_option maxRecDepth 100000
namespace Go.Proofs.YthdlpkdojipfhaaGreat.VX.VxM_M
open Go.Proofs Go.Proofs.YthdlpkdojipfhaaGreat.VX.T2
noncomputable section
abbrev Zra:Shape:={ sl:=sl_41,bl:=[],ts:=[y46,(.int .i64)],pin:=0 }
abbrev Zwl:Shape:={ sl:=sl_39,bl:=[],ts:=[y46],pin:=0 }
def Z65 (x:(T63 × Int)):Option (T63) :=
 bif (inb x.2 (List.length x.1.1.2.1)) then
 (Z6v (x.1,x.2,(IntKind.wrap .i64 ((getAt ((0:Int),(0:Int),(0:Int),false) x.1.1.2.1 (toN x.2)).2.1+(1:Int))))).bind fun r22 =>
 some r22
 else
 none
abbrev Z11w:=Spec.shp Zra Zwl Z65
def Zi2:Ctx:={ tb:=mkTb T2.tbl,fx:=[(51,[],Z129)],sum:=[],nt:=16,pin:=0,nr:=true,ys:=[] }
theorem Z66:Sound Tryz.prog 132 (Z11w) :=
 Sound.shp (C:=Zi2) (fn:=Tryz.f132) (by kernel_rfl) (c:=bodyOf Tryz.f132) (by kernel_rfl) (by decide) (ctxOK mixed tbl_ok rfl ⟨Z6w,trivial⟩ trivial) (SumOK.of trivial) (by kernel_rfl) Zra Zwl rfl (by decide) (by decide) rfl (by decide) rfl Z65 (fun x=>by kernel_rfl)
abbrev Zqp:Shape:={ sl:=[],bl:=[],ts:=[],pin:=0 }
abbrev Zw0:Shape:={ sl:=sl_17,bl:=[],ts:=[y5],pin:=0 }
def Z4z (x:Unit):Option (T7) :=
 some ((Int.negSucc 0),(0:Int),(0:Int))
abbrev Z11b:=Spec.shp Zqp Zw0 Z4z
def Zh7:Ctx:={ tb:=mkTb T2.tbl,fx:=[],sum:=[],nt:=2,pin:=0,nr:=true,ys:=[] }
theorem Z50:Sound Tryz.prog 212 (Z11b) :=
 Sound.shp (C:=Zh7) (fn:=Tryz.f212) (by kernel_rfl) (c:=bodyOf Tryz.f212) (by kernel_rfl) (by decide) (ctxOK mixed tbl_ok rfl trivial trivial) (SumOK.of trivial) (by kernel_rfl) Zqp Zw0 rfl (by decide) (by decide) rfl (by decide) rfl Z4z (fun x=>by kernel_rfl)
abbrev Znb:Shape:={ sl:=[(0,(.hole (.int .i64))),(1,(.hole (.int .i64))),(2,(.hole (.int .i64))),(6,(.ptr 0 [])),(7,(.ptr 1 [])),(8,(.hole (.int .i64)))],bl:=bl_26,ts:=[(.int .i64),(.int .i64),(.int .i64),(.int .i64),(.int .i64),(.int .i64),(.int .i64),(.int .i64),(.int .i64),(.int .i64),y0],pin:=0 }
abbrev Zlp:List (ETag × Shape):=[(.exit 0,{ sl:=[(6,(.ptr 0 [])),(7,(.ptr 1 []))],bl:=bl_26,ts:=[(.int .i64),(.int .i64),(.int .i64),(.int .i64),(.int .i64),(.int .i64),y0],pin:=0 })]
def Zc6 (x:(Int × Int × Int × Int × Int × Int × Int × Int × Int × Int × List Int)):Option ((Int × Int × Int × Int × Int × Int × Int × Int × Int × Int × List Int) ⊕ (Int × Int × Int × Int × Int × Int × List Int)) :=
 bif (decide (x.2.2.2.1 < x.1)) then
 bif (decide ((IntKind.wrap .i64 (x.2.1+x.2.2.2.1)) < x.2.2.1)) then
 bif (fits ((List.length x.2.2.2.2.2.2.2.2.2.2)+(List.length ((IntKind.wrap .i64 (x.2.1+x.2.2.2.1)) :: ([]:List Int))))) then
 some (.inl (x.1,x.2.1,x.2.2.1,(IntKind.wrap .i64 (x.2.2.2.1+(1:Int))),x.2.2.2.2.1,x.2.2.2.2.2.1,x.2.2.2.2.2.2.1,x.2.2.2.2.2.2.2.1,x.2.2.2.2.2.2.2.2.1,(IntKind.wrap .i64 (x.2.2.2.2.2.2.2.2.2.1+(1:Int))),(x.2.2.2.2.2.2.2.2.2.2++((IntKind.wrap .i64 (x.2.1+x.2.2.2.1)) :: ([]:List Int)))))
 else
 none
 else
 bif (fits ((List.length x.2.2.2.2.2.2.2.2.2.2)+(List.length ((0:Int) :: ([]:List Int))))) then
 some (.inl (x.1,x.2.1,x.2.2.1,(IntKind.wrap .i64 (x.2.2.2.1+(1:Int))),x.2.2.2.2.1,x.2.2.2.2.2.1,x.2.2.2.2.2.2.1,x.2.2.2.2.2.2.2.1,x.2.2.2.2.2.2.2.2.1,x.2.2.2.2.2.2.2.2.2.1,(x.2.2.2.2.2.2.2.2.2.2++((0:Int) :: ([]:List Int)))))
 else
 none
 else
 some (.inr (x.2.2.2.2.1,x.2.2.2.2.2.1,x.2.2.2.2.2.2.1,x.2.2.2.2.2.2.2.1,x.2.2.2.2.2.2.2.2.1,x.2.2.2.2.2.2.2.2.2.1,x.2.2.2.2.2.2.2.2.2.2))
def Zh9:Ctx:={ tb:=mkTb T2.tbl,fx:=[],sum:=[],nt:=36,pin:=0,nr:=true,ys:=[] }
theorem Zc7:CSound Tryz.prog ⟨36,0,true⟩ (.loop (loopOf 4 Tryz.f236)) (Yay Znb Zlp (loop Zc6)) :=
 Y8c (C:=Zh9) (ctxOK mixed tbl_ok rfl trivial trivial) (SumOK.of trivial) Znb Zlp rfl rfl Zc6 (fun x=>by kernel_rfl)
abbrev Zqq:Shape:={ sl:=sl_0,bl:=[],ts:=ts_0,pin:=0 }
abbrev Zw1:Shape:={ sl:=[(0,(.hole y21))],bl:=[],ts:=[y21],pin:=0 }
def Z51 (x:T4):Option (T16) :=
 (loop Zc6 (x.1,x.2.1,x.2.2,(0:Int),(0:Int),(0:Int),(0:Int),x.1,(0:Int),(0:Int),([]:List Int))).bind fun r30 =>
 some (r30.2.2.2.1,r30.2.2.2.2.1,r30.2.2.2.2.2.2,r30.2.2.2.2.2.1)
abbrev Z11c:=Spec.shp Zqq Zw1 Z51
def Zh8:Ctx:={ tb:=mkTb T2.tbl,fx:=[],sum:=[(0,4,Yay Znb Zlp (loop Zc6))],nt:=36,pin:=0,nr:=true,ys:=[] }
theorem Z52:Sound Tryz.prog 236 (Z11c) :=
 Sound.shp (C:=Zh8) (fn:=Tryz.f236) (by kernel_rfl) (c:=bodyOf Tryz.f236) (by kernel_rfl) (by decide) (ctxOK mixed tbl_ok rfl trivial trivial) (SumOK.of ⟨(Yb0 (d:=.loop (loopOf 4 Tryz.f236)) (by kernel_rfl) Zc7),trivial⟩) (by kernel_rfl) Zqq Zw1 rfl (by decide) (by decide) rfl (by decide) rfl Z51 (fun x=>by kernel_rfl)
abbrev Zqo:Shape:={ sl:=[(0,(.hole y40)),(1,(.hole (.int .i64))),(2,(.hole (.int .i64)))],bl:=[],ts:=[y40,(.int .i64),(.int .i64)],pin:=0 }
abbrev Zvz:Shape:={ sl:=[(0,(.hole y40))],bl:=[],ts:=[y40],pin:=0 }
def Z4x (x:((Int × T40) × Int × Int)):Option T43 :=
 (Z51 ((Max.max x.1.1 (0:Int)),(IntKind.wrap .i64 (x.1.2.2.2.2.1+x.2.2)),(IntKind.wrap .i64 (x.1.2.2.2.1+x.2.1)))).bind fun r29 =>
 some (x.1.1,x.1.2.1,r29,(IntKind.wrap .i64 (x.1.2.2.2.1+x.2.1)),(IntKind.wrap .i64 (x.1.2.2.2.2.1+x.2.2)),x.1.2.2.2.2.2)
abbrev Z11a:=Spec.shp Zqo Zvz Z4x
def Zh6:Ctx:={ tb:=mkTb T2.tbl,fx:=[(236,[],Z11c)],sum:=[],nt:=27,pin:=0,nr:=true,ys:=[] }
theorem Z4y:Sound Tryz.prog 213 (Z11a) :=
 Sound.shp (C:=Zh6) (fn:=Tryz.f213) (by kernel_rfl) (c:=bodyOf Tryz.f213) (by kernel_rfl) (by decide) (ctxOK mixed tbl_ok rfl ⟨Z52,trivial⟩ trivial) (SumOK.of trivial) (by kernel_rfl) Zqo Zvz rfl (by decide) (by decide) rfl (by decide) rfl Z4x (fun x=>by kernel_rfl)
abbrev Zn2:Shape:={ sl:=[(1,(.hole (.int .i64))),(5,(.sl 0)),(9,(.hole (.slice y5))),(10,(.hole (.int .i64))),(11,(.hole (.int .i64)))],bl:=[.row y5],ts:=[(.int .i64),(.slice y5),(.int .i64),(.int .i64),(.slice y5)],pin:=0 }
abbrev Zlg:List (ETag × Shape):=[(.exit 0,{ sl:=[(5,(.sl 0))],bl:=[.row y5],ts:=[(.slice y5)],pin:=0 })]
def Zbn (x:(Int × List (T7) × Int × Int × List (T7))):Option ((Int × List (T7) × Int × Int × List (T7)) ⊕ (List (T7))) :=
 bif (decide (x.2.2.2.1 < x.2.2.1)) then
 bif (inb x.2.2.2.1 (List.length x.2.1)) then
 bif ((getAt ((0:Int),(0:Int),(0:Int)) x.2.1 (toN x.2.2.2.1)).1 != x.1) then
 bif (fits ((List.length x.2.2.2.2)+(List.length ((getAt ((0:Int),(0:Int),(0:Int)) x.2.1 (toN x.2.2.2.1)) :: ([]:List T7))))) then
 some (.inl (x.1,x.2.1,x.2.2.1,(IntKind.wrap .i64 (x.2.2.2.1+(1:Int))),(x.2.2.2.2++((getAt ((0:Int),(0:Int),(0:Int)) x.2.1 (toN x.2.2.2.1)) :: ([]:List T7)))))
 else
 none
 else
 some (.inl (x.1,x.2.1,x.2.2.1,(IntKind.wrap .i64 (x.2.2.2.1+(1:Int))),x.2.2.2.2))
 else
 none
 else
 some (.inr x.2.2.2.2)
def Zgi:Ctx:={ tb:=mkTb T2.tbl,fx:=[],sum:=[],nt:=25,pin:=0,nr:=true,ys:=[] }
theorem Zbo:CSound Tryz.prog ⟨25,0,true⟩ (.loop (loopOf 4 Tryz.f179)) (Yay Zn2 Zlg (loop Zbn)) :=
 Y8c (C:=Zgi) (ctxOK mixed tbl_ok rfl trivial trivial) (SumOK.of trivial) Zn2 Zlg rfl rfl Zbn (fun x=>by kernel_rfl)
abbrev Zq8:Shape:={ sl:=sl_23,bl:=[],ts:=ts_12,pin:=0 }
abbrev Zvj:Shape:={ sl:=sl_18,bl:=[],ts:=[(.slice y5)],pin:=0 }
def Z40 (x:T15):Option (List (T7)) :=
 (loop Zbn (x.2,x.1,(((List.length x.1):Nat):Int),(0:Int),([]:List T7))).bind fun r30 =>
 some r30
abbrev Z10u:=Spec.shp Zq8 Zvj Z40
def Zgh:Ctx:={ tb:=mkTb T2.tbl,fx:=[],sum:=[(0,4,Yay Zn2 Zlg (loop Zbn))],nt:=25,pin:=0,nr:=true,ys:=[] }
theorem Z41:Sound Tryz.prog 179 (Z10u) :=
 Sound.shp (C:=Zgh) (fn:=Tryz.f179) (by kernel_rfl) (c:=bodyOf Tryz.f179) (by kernel_rfl) (by decide) (ctxOK mixed tbl_ok rfl trivial trivial) (SumOK.of ⟨(Yb0 (d:=.loop (loopOf 4 Tryz.f179)) (by kernel_rfl) Zbo),trivial⟩) (by kernel_rfl) Zq8 Zvj rfl (by decide) (by decide) rfl (by decide) rfl Z40 (fun x=>by kernel_rfl)
abbrev Zqi:Shape:={ sl:=sl_13,bl:=[],ts:=[y40,(.int .i64)],pin:=0 }
abbrev Zvt:Shape:={ sl:=[(0,(.hole y40))],bl:=[],ts:=[y40],pin:=0 }
def Z4l (x:T46):Option T43 :=
 (Z40 (x.1.2.2.2.2.2.1,x.2)).bind fun r29 =>
 (Z40 (x.1.2.2.2.2.2.2,x.2)).bind fun r30 =>
 some (x.1.1,x.1.2.1,x.1.2.2.1,x.1.2.2.2.1,x.1.2.2.2.2.1,r29,r30)
abbrev Z114:=Spec.shp Zqi Zvt Z4l
def Zgz:Ctx:={ tb:=mkTb T2.tbl,fx:=[(179,[],Z10u)],sum:=[],nt:=16,pin:=0,nr:=true,ys:=[] }
theorem Z4m:Sound Tryz.prog 214 (Z114) :=
 Sound.shp (C:=Zgz) (fn:=Tryz.f214) (by kernel_rfl) (c:=bodyOf Tryz.f214) (by kernel_rfl) (by decide) (ctxOK mixed tbl_ok rfl ⟨Z41,trivial⟩ trivial) (SumOK.of trivial) (by kernel_rfl) Zqi Zvt rfl (by decide) (by decide) rfl (by decide) rfl Z4l (fun x=>by kernel_rfl)
abbrev Zn4:Shape:={ sl:=[(1,(.hole (.int .i64))),(2,(.hole (.int .i64))),(9,(.hole (.slice y5))),(10,(.hole (.int .i64))),(11,(.hole (.int .i64)))],bl:=[],ts:=[(.int .i64),(.int .i64),(.slice y5),(.int .i64),(.int .i64)],pin:=0 }
abbrev Zli:List (ETag × Shape):=[(.ret,{ sl:=[(6,(.hole .bool))],bl:=[],ts:=ts_1,pin:=0 }),(.exit 0,{ sl:=[],bl:=[],ts:=[],pin:=0 })]
def Zbr (x:(Int × Int × List (T7) × Int × Int)):Option ((Int × Int × List (T7) × Int × Int) ⊕ ((Bool) ⊕ Unit)) :=
 bif (decide (x.2.2.2.2 < x.2.2.2.1)) then
 bif (inb x.2.2.2.2 (List.length x.2.2.1)) then
 bif ((getAt ((0:Int),(0:Int),(0:Int)) x.2.2.1 (toN x.2.2.2.2)).1 == x.1) then
 bif ((getAt ((0:Int),(0:Int),(0:Int)) x.2.2.1 (toN x.2.2.2.2)).2.1 == x.2.1) then
 some (.inr (.inl true))
 else
 some (.inl (x.1,x.2.1,x.2.2.1,x.2.2.2.1,(IntKind.wrap .i64 (x.2.2.2.2+(1:Int)))))
 else
 some (.inl (x.1,x.2.1,x.2.2.1,x.2.2.2.1,(IntKind.wrap .i64 (x.2.2.2.2+(1:Int)))))
 else
 none
 else
 some (.inr (.inr ()))
def Zgm:Ctx:={ tb:=mkTb T2.tbl,fx:=[],sum:=[],nt:=26,pin:=0,nr:=true,ys:=[] }
theorem Zbs:CSound Tryz.prog ⟨26,0,true⟩ (.loop (loopOf 3 Tryz.f237)) (Yay Zn4 Zli (loop Zbr)) :=
 Y8c (C:=Zgm) (ctxOK mixed tbl_ok rfl trivial trivial) (SumOK.of trivial) Zn4 Zli rfl rfl Zbr (fun x=>by kernel_rfl)
abbrev Zqa:Shape:={ sl:=[(0,(.hole (.slice y5))),(1,(.hole (.int .i64))),(2,(.hole (.int .i64)))],bl:=[],ts:=[(.slice y5),(.int .i64),(.int .i64)],pin:=0 }
abbrev Zvl:Shape:={ sl:=sl_1,bl:=[],ts:=ts_1,pin:=0 }
def Z44 (x:(List (T7) × Int × Int)):Option (Bool) :=
 (loop Zbr (x.2.1,x.2.2,x.1,(((List.length x.1):Nat):Int),(0:Int))).bind fun r30 =>
 match r30 with
 | .inl y31 =>
 some y31
 | .inr y31 =>
 some false
abbrev Z10w:=Spec.shp Zqa Zvl Z44
def Zgl:Ctx:={ tb:=mkTb T2.tbl,fx:=[],sum:=[(0,3,Yay Zn4 Zli (loop Zbr))],nt:=26,pin:=0,nr:=true,ys:=[] }
theorem Z45:Sound Tryz.prog 237 (Z10w) :=
 Sound.shp (C:=Zgl) (fn:=Tryz.f237) (by kernel_rfl) (c:=bodyOf Tryz.f237) (by kernel_rfl) (by decide) (ctxOK mixed tbl_ok rfl trivial trivial) (SumOK.of ⟨(Yb0 (d:=.loop (loopOf 3 Tryz.f237)) (by kernel_rfl) Zbs),trivial⟩) (by kernel_rfl) Zqa Zvl rfl (by decide) (by decide) rfl (by decide) rfl Z44 (fun x=>by kernel_rfl)
abbrev Zqk:Shape:={ sl:=[(0,(.hole (.slice y5))),(1,(.hole y5))],bl:=[],ts:=[(.slice y5),y5],pin:=0 }
abbrev Zvv:Shape:={ sl:=sl_23,bl:=[],ts:=ts_12,pin:=0 }
def Z4p (x:(List (T7) × T7)):Option T15 :=
 (Z44 (x.1,x.2.1,x.2.2.1)).bind fun r29 =>
 bif r29 then
 some (([]:List T7),(7:Int))
 else
 bif ((((List.length x.1):Nat):Int) == (64:Int)) then
 some (([]:List T7),(5:Int))
 else
 bif (fits ((List.length ([]:List T7))+(List.length x.1))) then
 bif (fits ((List.length (([]:List T7)++x.1))+(List.length (x.2 :: ([]:List T7))))) then
 some (((([]:List T7)++x.1)++(x.2 :: ([]:List T7))),(0:Int))
 else
 none
 else
 none
abbrev Z116:=Spec.shp Zqk Zvv Z4p
def Zh2:Ctx:={ tb:=mkTb T2.tbl,fx:=[(237,[],Z10w)],sum:=[],nt:=24,pin:=0,nr:=true,ys:=[] }
theorem Z4q:Sound Tryz.prog 215 (Z116) :=
 Sound.shp (C:=Zh2) (fn:=Tryz.f215) (by kernel_rfl) (c:=bodyOf Tryz.f215) (by kernel_rfl) (by decide) (ctxOK mixed tbl_ok rfl ⟨Z45,trivial⟩ trivial) (SumOK.of trivial) (by kernel_rfl) Zqk Zvv rfl (by decide) (by decide) rfl (by decide) rfl Z4p (fun x=>by kernel_rfl)
abbrev Zqm:Shape:={ sl:=sl_27,bl:=[],ts:=[y40,y5],pin:=0 }
abbrev Zvx:Shape:={ sl:=sl_28,bl:=[],ts:=[y40,y30,(.int .i64)],pin:=0 }
def Z4t (x:T45):Option T48 :=
 (Z4z ()).bind fun r26 =>
 bif (x.1.1 == (Int.negSucc 0)) then
 some (x.1,((0:Int),(0:Int),r26,(0:Int)),(0:Int))
 else
 (Z42 (x.1.2.2.2.2.2.1,x.2.1)).bind fun r27 =>
 bif (decide (r27 ≥ (0:Int))) then
 bif (x.1.2.2.2.1 == (1048576:Int)) then
 some (((0:Int),false,((0:Int),(0:Int),([]:List Int),(0:Int)),(0:Int),(0:Int),([]:List T7),([]:List T7)),((0:Int),(0:Int),((0:Int),(0:Int),(0:Int)),(0:Int)),(5:Int))
 else
 bif (decide (x.1.2.2.1.2.2.2 > (0:Int))) then
 bif (decide (r27 < (0:Int))) then
 (Z4x (x.1,(0:Int),(1:Int))).bind fun r28 =>
 some (r28,((1:Int),x.1.2.2.2.2.1,r26,(0:Int)),(0:Int))
 else
 bif (inb r27 (List.length x.1.2.2.2.2.2.1)) then
 (Z4l (x.1,(getAt ((0:Int),(0:Int),(0:Int)) x.1.2.2.2.2.2.1 (toN r27)).1)).bind fun r28 =>
 (Z4x (r28,(1:Int),(1:Int))).bind fun r29 =>
 some (r29,((1:Int),x.1.2.2.2.2.1,(getAt ((0:Int),(0:Int),(0:Int)) x.1.2.2.2.2.2.1 (toN r27)),x.1.2.2.2.1),(0:Int))
 else
 none
 else
 bif (decide (r27 ≥ (0:Int))) then
 bif (decide (r27 < (0:Int))) then
 (Z4x (x.1,(0:Int),(1:Int))).bind fun r28 =>
 some (r28,((1:Int),x.1.2.2.2.2.1,r26,(0:Int)),(0:Int))
 else
 bif (inb r27 (List.length x.1.2.2.2.2.2.1)) then
 (Z4l (x.1,(getAt ((0:Int),(0:Int),(0:Int)) x.1.2.2.2.2.2.1 (toN r27)).1)).bind fun r28 =>
 (Z4x (r28,(1:Int),(1:Int))).bind fun r29 =>
 some (r29,((1:Int),x.1.2.2.2.2.1,(getAt ((0:Int),(0:Int),(0:Int)) x.1.2.2.2.2.2.1 (toN r27)),x.1.2.2.2.1),(0:Int))
 else
 none
 else
 bif x.1.2.1 then
 some (x.1,((2:Int),(0:Int),r26,(0:Int)),(0:Int))
 else
 (Z4p (x.1.2.2.2.2.2.2,x.2)).bind fun r28 =>
 bif (r28.2 != (0:Int)) then
 some (((0:Int),false,((0:Int),(0:Int),([]:List Int),(0:Int)),(0:Int),(0:Int),([]:List T7),([]:List T7)),((0:Int),(0:Int),((0:Int),(0:Int),(0:Int)),(0:Int)),r28.2)
 else
 some ((x.1.1,x.1.2.1,x.1.2.2.1,x.1.2.2.2.1,x.1.2.2.2.2.1,x.1.2.2.2.2.2.1,r28.1),((0:Int),(0:Int),r26,(0:Int)),(0:Int))
 else
 bif (decide (x.1.2.2.1.2.2.2 > (0:Int))) then
 bif (decide (r27 < (0:Int))) then
 (Z4x (x.1,(0:Int),(1:Int))).bind fun r28 =>
 some (r28,((1:Int),x.1.2.2.2.2.1,r26,(0:Int)),(0:Int))
 else
 bif (inb r27 (List.length x.1.2.2.2.2.2.1)) then
 (Z4l (x.1,(getAt ((0:Int),(0:Int),(0:Int)) x.1.2.2.2.2.2.1 (toN r27)).1)).bind fun r28 =>
 (Z4x (r28,(1:Int),(1:Int))).bind fun r29 =>
 some (r29,((1:Int),x.1.2.2.2.2.1,(getAt ((0:Int),(0:Int),(0:Int)) x.1.2.2.2.2.2.1 (toN r27)),x.1.2.2.2.1),(0:Int))
 else
 none
 else
 bif (decide (r27 ≥ (0:Int))) then
 bif (decide (r27 < (0:Int))) then
 (Z4x (x.1,(0:Int),(1:Int))).bind fun r28 =>
 some (r28,((1:Int),x.1.2.2.2.2.1,r26,(0:Int)),(0:Int))
 else
 bif (inb r27 (List.length x.1.2.2.2.2.2.1)) then
 (Z4l (x.1,(getAt ((0:Int),(0:Int),(0:Int)) x.1.2.2.2.2.2.1 (toN r27)).1)).bind fun r28 =>
 (Z4x (r28,(1:Int),(1:Int))).bind fun r29 =>
 some (r29,((1:Int),x.1.2.2.2.2.1,(getAt ((0:Int),(0:Int),(0:Int)) x.1.2.2.2.2.2.1 (toN r27)),x.1.2.2.2.1),(0:Int))
 else
 none
 else
 bif x.1.2.1 then
 some (x.1,((2:Int),(0:Int),r26,(0:Int)),(0:Int))
 else
 (Z4p (x.1.2.2.2.2.2.2,x.2)).bind fun r28 =>
 bif (r28.2 != (0:Int)) then
 some (((0:Int),false,((0:Int),(0:Int),([]:List Int),(0:Int)),(0:Int),(0:Int),([]:List T7),([]:List T7)),((0:Int),(0:Int),((0:Int),(0:Int),(0:Int)),(0:Int)),r28.2)
 else
 some ((x.1.1,x.1.2.1,x.1.2.2.1,x.1.2.2.2.1,x.1.2.2.2.2.1,x.1.2.2.2.2.2.1,r28.1),((0:Int),(0:Int),r26,(0:Int)),(0:Int))
abbrev Z118:=Spec.shp Zqm Zvx Z4t
def Zh4:Ctx:={ tb:=mkTb T2.tbl,fx:=[(212,[],Z11b),(159,[],Z10v),(213,[],Z11a),(214,[],Z114),(215,[],Z116)],sum:=[],nt:=86,pin:=0,nr:=true,ys:=[] }
theorem Z4u:Sound Tryz.prog 181 (Z118) :=
 Sound.shp (C:=Zh4) (fn:=Tryz.f181) (by kernel_rfl) (c:=bodyOf Tryz.f181) (by kernel_rfl) (by decide) (ctxOK mixed tbl_ok rfl ⟨Z50,Z43,Z4y,Z4m,Z4q,trivial⟩ trivial) (SumOK.of trivial) (by kernel_rfl) Zqm Zvx rfl (by decide) (by decide) rfl (by decide) rfl Z4t (fun x=>by kernel_rfl)
abbrev Zrh:Shape:={ sl:=[(0,(.hole y45)),(1,(.hole (.int .i64))),(2,(.hole (.int .i64)))],bl:=[],ts:=[y45,(.int .i64),(.int .i64)],pin:=0 }
abbrev Zws:Shape:={ sl:=sl_1,bl:=[],ts:=ts_1,pin:=0 }
def Z6j (x:((T47 × T61) × Int × Int)):Option (Bool) :=
 (Z5x (x.1,x.2.1)).bind fun r27 =>
 bif (r27.1 == (4:Int)) then
 bif (inb r27.2.1 (List.length x.1.1.2.2.2.2.1)) then
 bif (inb x.2.2 (List.length (getAt (([]:List T0),false) x.1.1.2.2.2.2.1 (toN r27.2.1)).1)) then
 some (getAt (false,(0:Int)) (getAt (([]:List T0),false) x.1.1.2.2.2.2.1 (toN r27.2.1)).1 (toN x.2.2)).1
 else
 none
 else
 none
 else
 some (r27.1 == (1:Int))
abbrev Z123:=Spec.shp Zrh Zws Z6j
def Zic:Ctx:={ tb:=mkTb T2.tbl,fx:=[(55,[],Z11s)],sum:=[],nt:=29,pin:=0,nr:=true,ys:=[] }
theorem Z6k:Sound Tryz.prog 210 (Z123) :=
 Sound.shp (C:=Zic) (fn:=Tryz.f210) (by kernel_rfl) (c:=bodyOf Tryz.f210) (by kernel_rfl) (by decide) (ctxOK mixed tbl_ok rfl ⟨Z5y,trivial⟩ trivial) (SumOK.of trivial) (by kernel_rfl) Zrh Zws rfl (by decide) (by decide) rfl (by decide) rfl Z6j (fun x=>by kernel_rfl)
abbrev Zqn:Shape:={ sl:=sl_27,bl:=[],ts:=[y40,y5],pin:=0 }
abbrev Zvy:Shape:={ sl:=sl_28,bl:=[],ts:=[y40,y30,(.int .i64)],pin:=0 }
def Z4v (x:T45):Option T48 :=
 (Z4z ()).bind fun r28 =>
 bif (x.1.1 == (Int.negSucc 0)) then
 some (x.1,((0:Int),(0:Int),r28,(0:Int)),(0:Int))
 else
 bif x.1.2.1 then
 some (x.1,((3:Int),(0:Int),r28,(0:Int)),(0:Int))
 else
 (Z42 (x.1.2.2.2.2.2.2,x.2.1)).bind fun r29 =>
 bif (decide (r29 ≥ (0:Int))) then
 bif (x.1.2.2.2.1 == (1048576:Int)) then
 some (((0:Int),false,((0:Int),(0:Int),([]:List Int),(0:Int)),(0:Int),(0:Int),([]:List T7),([]:List T7)),((0:Int),(0:Int),((0:Int),(0:Int),(0:Int)),(0:Int)),(5:Int))
 else
 bif (decide (r29 < (0:Int))) then
 (Z4x (x.1,(1:Int),(0:Int))).bind fun r30 =>
 some (r30,((1:Int),x.1.2.2.2.1,r28,(0:Int)),(0:Int))
 else
 bif (inb r29 (List.length x.1.2.2.2.2.2.2)) then
 (Z4l (x.1,(getAt ((0:Int),(0:Int),(0:Int)) x.1.2.2.2.2.2.2 (toN r29)).1)).bind fun r30 =>
 (Z4x (r30,(1:Int),(1:Int))).bind fun r31 =>
 some (r31,((1:Int),x.1.2.2.2.1,(getAt ((0:Int),(0:Int),(0:Int)) x.1.2.2.2.2.2.2 (toN r29)),x.1.2.2.2.1),(0:Int))
 else
 none
 else
 bif (decide (x.1.2.2.1.2.2.2 < x.1.1)) then
 bif (x.1.2.2.2.1 == (1048576:Int)) then
 some (((0:Int),false,((0:Int),(0:Int),([]:List Int),(0:Int)),(0:Int),(0:Int),([]:List T7),([]:List T7)),((0:Int),(0:Int),((0:Int),(0:Int),(0:Int)),(0:Int)),(5:Int))
 else
 bif (decide (r29 < (0:Int))) then
 (Z4x (x.1,(1:Int),(0:Int))).bind fun r30 =>
 some (r30,((1:Int),x.1.2.2.2.1,r28,(0:Int)),(0:Int))
 else
 bif (inb r29 (List.length x.1.2.2.2.2.2.2)) then
 (Z4l (x.1,(getAt ((0:Int),(0:Int),(0:Int)) x.1.2.2.2.2.2.2 (toN r29)).1)).bind fun r30 =>
 (Z4x (r30,(1:Int),(1:Int))).bind fun r31 =>
 some (r31,((1:Int),x.1.2.2.2.1,(getAt ((0:Int),(0:Int),(0:Int)) x.1.2.2.2.2.2.2 (toN r29)),x.1.2.2.2.1),(0:Int))
 else
 none
 else
 (Z4p (x.1.2.2.2.2.2.1,x.2)).bind fun r30 =>
 bif (r30.2 != (0:Int)) then
 some (((0:Int),false,((0:Int),(0:Int),([]:List Int),(0:Int)),(0:Int),(0:Int),([]:List T7),([]:List T7)),((0:Int),(0:Int),((0:Int),(0:Int),(0:Int)),(0:Int)),r30.2)
 else
 some ((x.1.1,x.1.2.1,x.1.2.2.1,x.1.2.2.2.1,x.1.2.2.2.2.1,r30.1,x.1.2.2.2.2.2.2),((0:Int),(0:Int),r28,(0:Int)),(0:Int))
abbrev Z119:=Spec.shp Zqn Zvy Z4v
def Zh5:Ctx:={ tb:=mkTb T2.tbl,fx:=[(212,[],Z11b),(159,[],Z10v),(213,[],Z11a),(214,[],Z114),(215,[],Z116)],sum:=[],nt:=84,pin:=0,nr:=true,ys:=[] }
theorem Z4w:Sound Tryz.prog 182 (Z119) :=
 Sound.shp (C:=Zh5) (fn:=Tryz.f182) (by kernel_rfl) (c:=bodyOf Tryz.f182) (by kernel_rfl) (by decide) (ctxOK mixed tbl_ok rfl ⟨Z50,Z43,Z4y,Z4m,Z4q,trivial⟩ trivial) (SumOK.of trivial) (by kernel_rfl) Zqn Zvy rfl (by decide) (by decide) rfl (by decide) rfl Z4v (fun x=>by kernel_rfl)
abbrev Zng:Shape:={ sl:=[(1,(.hole (.int .i64))),(3,(.ptr 0 [])),(5,(.ptr 1 [])),(6,(.ptr 2 [])),(7,(.sl 3)),(13,(.hole y41)),(14,(.hole (.int .i64))),(15,(.hole (.int .i64)))],bl:=[.var (.hole y46),.var (.hole y40),.var (.pr (.pr (.pr .nl (.pr (.hole (.int .i64)) (.pr (.hole (.int .i64)) (.pr (.hole (.int .i64)) (.pr .nl .nl))))) (.pr .nl (.pr .nl (.pr .nl (.pr .nl (.hole y4)))))) .nl),.row y40],ts:=[(.int .i64),y41,(.int .i64),(.int .i64),y46,y40,(.int .i64),(.int .i64),(.int .i64),y4,y41],pin:=0 }
abbrev Zlu:List (ETag × Shape):=[(.exit 0,{ sl:=sl_40,bl:=bl_27,ts:=[y46,(.int .i64),(.int .i64),(.int .i64),y4,y41],pin:=0 })]
def Zcg (x:(Int × List T43 × Int × Int × T63 × (Int × T40) × Int × Int × Int × (Int × Int) × List T43)):Option ((Int × List T43 × Int × Int × T63 × (Int × T40) × Int × Int × Int × (Int × Int) × List T43) ⊕ (T63 × Int × Int × Int × (Int × Int) × List T43)) :=
 bif (decide (x.2.2.2.1 < x.2.2.1)) then
 bif (inb x.2.2.2.1 (List.length x.2.1)) then
 bif (x.2.2.2.1 == x.1) then
 bif (fits ((List.length x.2.2.2.2.2.2.2.2.2.2)+(List.length (x.2.2.2.2.2.1 :: ([]:List (Int × T41)))))) then
 some (.inl (x.1,x.2.1,x.2.2.1,(IntKind.wrap .i64 (x.2.2.2.1+(1:Int))),x.2.2.2.2.1,x.2.2.2.2.2.1,x.2.2.2.2.2.2.1,x.2.2.2.2.2.2.2.1,x.2.2.2.2.2.2.2.2.1,x.2.2.2.2.2.2.2.2.2.1,(x.2.2.2.2.2.2.2.2.2.2++(x.2.2.2.2.2.1 :: ([]:List (Int × T41))))))
 else
 none
 else
 bif (fits ((List.length x.2.2.2.2.2.2.2.2.2.2)+(List.length ((getAt ((0:Int),false,((0:Int),(0:Int),([]:List Int),(0:Int)),(0:Int),(0:Int),([]:List T7),([]:List T7)) x.2.1 (toN x.2.2.2.1)) :: ([]:List (Int × T41)))))) then
 some (.inl (x.1,x.2.1,x.2.2.1,(IntKind.wrap .i64 (x.2.2.2.1+(1:Int))),x.2.2.2.2.1,x.2.2.2.2.2.1,x.2.2.2.2.2.2.1,x.2.2.2.2.2.2.2.1,x.2.2.2.2.2.2.2.2.1,x.2.2.2.2.2.2.2.2.2.1,(x.2.2.2.2.2.2.2.2.2.2++((getAt ((0:Int),false,((0:Int),(0:Int),([]:List Int),(0:Int)),(0:Int),(0:Int),([]:List T7),([]:List T7)) x.2.1 (toN x.2.2.2.1)) :: ([]:List (Int × T41))))))
 else
 none
 else
 none
 else
 some (.inr (x.2.2.2.2.1,x.2.2.2.2.2.2.1,x.2.2.2.2.2.2.2.1,x.2.2.2.2.2.2.2.2.1,x.2.2.2.2.2.2.2.2.2.1,x.2.2.2.2.2.2.2.2.2.2))
def Zho:Ctx:={ tb:=mkTb T2.tbl,fx:=[],sum:=[],nt:=33,pin:=0,nr:=true,ys:=[] }
theorem Zch:CSound Tryz.prog ⟨33,0,true⟩ (.loop (loopOf 4 Tryz.f178)) (Yay Zng Zlu (loop Zcg)) :=
 Y8c (C:=Zho) (ctxOK mixed tbl_ok rfl trivial trivial) (SumOK.of trivial) Zng Zlu rfl rfl Zcg (fun x=>by kernel_rfl)
abbrev Zr0:Shape:={ sl:=[(0,(.hole y46)),(1,(.hole (.int .i64))),(2,(.hole y40))],bl:=[],ts:=[y46,(.int .i64),y40],pin:=0 }
abbrev Zwb:Shape:={ sl:=sl_39,bl:=[],ts:=[y46],pin:=0 }
def Z5l (x:(T63 × Int × (Int × T40))):Option (T63) :=
 (loop Zcg (x.2.1,x.1.1.2.2.1,(((List.length x.1.1.2.2.1):Nat):Int),(0:Int),x.1,x.2.2,(0:Int),(0:Int),(0:Int),((0:Int),(0:Int)),([]:List (Int × T41)))).bind fun r29 =>
 some ((r29.1.1.1,r29.1.1.2.1,r29.2.2.2.2.2,r29.1.1.2.2.2),r29.1.2)
abbrev Z11m:=Spec.shp Zr0 Zwb Z5l
def Zhn:Ctx:={ tb:=mkTb T2.tbl,fx:=[],sum:=[(0,4,Yay Zng Zlu (loop Zcg))],nt:=33,pin:=0,nr:=true,ys:=[] }
theorem Z5m:Sound Tryz.prog 178 (Z11m) :=
 Sound.shp (C:=Zhn) (fn:=Tryz.f178) (by kernel_rfl) (c:=bodyOf Tryz.f178) (by kernel_rfl) (by decide) (ctxOK mixed tbl_ok rfl trivial trivial) (SumOK.of ⟨(Yb0 (d:=.loop (loopOf 4 Tryz.f178)) (by kernel_rfl) Zch),trivial⟩) (by kernel_rfl) Zr0 Zwb rfl (by decide) (by decide) rfl (by decide) rfl Z5l (fun x=>by kernel_rfl)
abbrev Zro:Shape:={ sl:=sl_41,bl:=[],ts:=[y46,(.int .i64)],pin:=0 }
abbrev Zwz:Shape:={ sl:=sl_39,bl:=[],ts:=[y46],pin:=0 }
def Z6x (x:(T63 × Int)):Option (T63) :=
 bif (inb x.2 (List.length x.1.1.2.1)) then
 (Z5v (x.1,x.2,(getAt ((0:Int),(0:Int),(0:Int),false) x.1.1.2.1 (toN x.2)).1,(getAt ((0:Int),(0:Int),(0:Int),false) x.1.1.2.1 (toN x.2)).2.1,(1:Int),(getAt ((0:Int),(0:Int),(0:Int),false) x.1.1.2.1 (toN x.2)).2.2.2)).bind fun r30 =>
 some r30
 else
 none
abbrev Z12a:=Spec.shp Zro Zwz Z6x
def Zil:Ctx:={ tb:=mkTb T2.tbl,fx:=[(105,[],Z11r)],sum:=[],nt:=17,pin:=0,nr:=true,ys:=[] }
theorem Z6y:Sound Tryz.prog 183 (Z12a) :=
 Sound.shp (C:=Zil) (fn:=Tryz.f183) (by kernel_rfl) (c:=bodyOf Tryz.f183) (by kernel_rfl) (by decide) (ctxOK mixed tbl_ok rfl ⟨Z5w,trivial⟩ trivial) (SumOK.of trivial) (by kernel_rfl) Zro Zwz rfl (by decide) (by decide) rfl (by decide) rfl Z6x (fun x=>by kernel_rfl)
abbrev Znj:Shape:={ sl:=[(1,(.hole (.int .i64))),(2,(.ptr 0 [])),(4,(.ptr 1 [])),(5,(.sl 2)),(11,(.hole y41)),(12,(.hole (.int .i64))),(13,(.hole (.int .i64)))],bl:=bl_27,ts:=[(.int .i64),y41,(.int .i64),(.int .i64),y46,(.int .i64),(.int .i64),(.int .i64),y4,y41],pin:=0 }
abbrev Zlx:List (ETag × Shape):=[(.exit 0,{ sl:=[(2,(.ptr 0 [])),(4,(.ptr 1 [])),(5,(.sl 2))],bl:=bl_27,ts:=[y46,(.int .i64),(.int .i64),(.int .i64),y4,y41],pin:=0 })]
def Zcm (x:(Int × List T43 × Int × Int × T63 × Int × Int × Int × (Int × Int) × List T43)):Option ((Int × List T43 × Int × Int × T63 × Int × Int × Int × (Int × Int) × List T43) ⊕ (T63 × Int × Int × Int × (Int × Int) × List T43)) :=
 bif (decide (x.2.2.2.1 < x.2.2.1)) then
 bif (inb x.2.2.2.1 (List.length x.2.1)) then
 (Z4l ((getAt ((0:Int),false,((0:Int),(0:Int),([]:List Int),(0:Int)),(0:Int),(0:Int),([]:List T7),([]:List T7)) x.2.1 (toN x.2.2.2.1)),x.1)).bind fun r36 =>
 bif (fits ((List.length x.2.2.2.2.2.2.2.2.2)+(List.length (r36 :: ([]:List (Int × T41)))))) then
 some (.inl (x.1,x.2.1,x.2.2.1,(IntKind.wrap .i64 (x.2.2.2.1+(1:Int))),x.2.2.2.2.1,x.2.2.2.2.2.1,x.2.2.2.2.2.2.1,x.2.2.2.2.2.2.2.1,x.2.2.2.2.2.2.2.2.1,(x.2.2.2.2.2.2.2.2.2++(r36 :: ([]:List (Int × T41))))))
 else
 none
 else
 none
 else
 some (.inr (x.2.2.2.2.1,x.2.2.2.2.2.1,x.2.2.2.2.2.2.1,x.2.2.2.2.2.2.2.1,x.2.2.2.2.2.2.2.2.1,x.2.2.2.2.2.2.2.2.2))
def Zhz:Ctx:={ tb:=mkTb T2.tbl,fx:=[(214,[],Z114)],sum:=[],nt:=28,pin:=0,nr:=true,ys:=[] }
theorem Zcn:CSound Tryz.prog ⟨28,0,true⟩ (.loop (loopOf 4 Tryz.f211)) (Yay Znj Zlx (loop Zcm)) :=
 Y8c (C:=Zhz) (ctxOK mixed tbl_ok rfl ⟨Z4m,trivial⟩ trivial) (SumOK.of trivial) Znj Zlx rfl rfl Zcm (fun x=>by kernel_rfl)
abbrev Zr8:Shape:={ sl:=sl_41,bl:=[],ts:=[y46,(.int .i64)],pin:=0 }
abbrev Zwj:Shape:={ sl:=sl_39,bl:=[],ts:=[y46],pin:=0 }
def Z61 (x:(T63 × Int)):Option (T63) :=
 (loop Zcm (x.2,x.1.1.2.2.1,(((List.length x.1.1.2.2.1):Nat):Int),(0:Int),x.1,(0:Int),(0:Int),(0:Int),((0:Int),(0:Int)),([]:List (Int × T41)))).bind fun r35 =>
 some ((r35.1.1.1,r35.1.1.2.1,r35.2.2.2.2.2,r35.1.1.2.2.2),r35.1.2)
abbrev Z11u:=Spec.shp Zr8 Zwj Z61
def Zhy:Ctx:={ tb:=mkTb T2.tbl,fx:=[(214,[],Z114)],sum:=[(0,4,Yay Znj Zlx (loop Zcm))],nt:=28,pin:=0,nr:=true,ys:=[] }
theorem Z62:Sound Tryz.prog 211 (Z11u) :=
 Sound.shp (C:=Zhy) (fn:=Tryz.f211) (by kernel_rfl) (c:=bodyOf Tryz.f211) (by kernel_rfl) (by decide) (ctxOK mixed tbl_ok rfl ⟨Z4m,trivial⟩ trivial) (SumOK.of ⟨(Yb0 (d:=.loop (loopOf 4 Tryz.f211)) (by kernel_rfl) Zcn),trivial⟩) (by kernel_rfl) Zr8 Zwj rfl (by decide) (by decide) rfl (by decide) rfl Z61 (fun x=>by kernel_rfl)
abbrev Zr2:Shape:={ sl:=[(0,(.hole y46)),(1,(.hole (.int .i64))),(2,(.hole y5)),(3,(.hole (.int .i64))),(4,(.hole .bool))],bl:=[],ts:=[y46,(.int .i64),y5,(.int .i64),.bool],pin:=0 }
abbrev Zwd:Shape:={ sl:=sl_39,bl:=[],ts:=[y46],pin:=0 }
def Z5p (x:(T63 × Int × T7 × Int × Bool)):Option (T63) :=
 (Z6j (x.1.1,x.2.2.1.1,x.2.2.1.2.1)).bind fun r30 =>
 bif r30 then
 bif x.2.2.2.2 then
 (Z6t (x.1,x.2.2.1.1,(6:Int),x.2.1,x.2.2.2.1,x.2.2.1.2.2)).bind fun r31 =>
 bif (inb x.2.2.1.1 (List.length r31.1.2.1)) then
 (Z5v (r31,x.2.2.1.1,(getAt ((0:Int),(0:Int),(0:Int),false) r31.1.2.1 (toN x.2.2.1.1)).1,(getAt ((0:Int),(0:Int),(0:Int),false) r31.1.2.1 (toN x.2.2.1.1)).2.1,(getAt ((0:Int),(0:Int),(0:Int),false) r31.1.2.1 (toN x.2.2.1.1)).2.2.1,x.2.2.2.2)).bind fun r32 =>
 (Z65 (r32,x.2.2.1.1)).bind fun r33 =>
 (Z61 (r33,x.2.2.1.1)).bind fun r34 =>
 some r34
 else
 none
 else
 (Z6t (x.1,x.2.2.1.1,(3:Int),x.2.1,x.2.2.2.1,x.2.2.1.2.2)).bind fun r31 =>
 (Z65 (r31,x.2.2.1.1)).bind fun r32 =>
 (Z61 (r32,x.2.2.1.1)).bind fun r33 =>
 some r33
 else
 bif x.2.2.2.2 then
 (Z6t (x.1,x.2.2.1.1,(6:Int),x.2.1,x.2.2.2.1,x.2.2.1.2.2)).bind fun r31 =>
 bif (inb x.2.2.1.1 (List.length r31.1.2.1)) then
 (Z5v (r31,x.2.2.1.1,(getAt ((0:Int),(0:Int),(0:Int),false) r31.1.2.1 (toN x.2.2.1.1)).1,(getAt ((0:Int),(0:Int),(0:Int),false) r31.1.2.1 (toN x.2.2.1.1)).2.1,(getAt ((0:Int),(0:Int),(0:Int),false) r31.1.2.1 (toN x.2.2.1.1)).2.2.1,x.2.2.2.2)).bind fun r32 =>
 (Z65 (r32,x.2.2.1.1)).bind fun r33 =>
 (Z61 (r33,x.2.2.1.1)).bind fun r34 =>
 some r34
 else
 none
 else
 (Z6t (x.1,x.2.2.1.1,(5:Int),x.2.1,x.2.2.2.1,x.2.2.1.2.2)).bind fun r31 =>
 bif (inb x.2.2.1.1 (List.length r31.1.2.1)) then
 (Z5v (r31,x.2.2.1.1,(getAt ((0:Int),(0:Int),(0:Int),false) r31.1.2.1 (toN x.2.2.1.1)).1,(getAt ((0:Int),(0:Int),(0:Int),false) r31.1.2.1 (toN x.2.2.1.1)).2.1,(getAt ((0:Int),(0:Int),(0:Int),false) r31.1.2.1 (toN x.2.2.1.1)).2.2.1,x.2.2.2.2)).bind fun r32 =>
 (Z65 (r32,x.2.2.1.1)).bind fun r33 =>
 (Z61 (r33,x.2.2.1.1)).bind fun r34 =>
 some r34
 else
 none
abbrev Z11o:=Spec.shp Zr2 Zwd Z5p
def Zhq:Ctx:={ tb:=mkTb T2.tbl,fx:=[(210,[],Z123),(52,[],Z128),(105,[],Z11r),(132,[],Z11w),(211,[],Z11u)],sum:=[],nt:=54,pin:=0,nr:=true,ys:=[] }
theorem Z5q:Sound Tryz.prog 180 (Z11o) :=
 Sound.shp (C:=Zhq) (fn:=Tryz.f180) (by kernel_rfl) (c:=bodyOf Tryz.f180) (by kernel_rfl) (by decide) (ctxOK mixed tbl_ok rfl ⟨Z6k,Z6u,Z5w,Z66,Z62,trivial⟩ trivial) (SumOK.of trivial) (by kernel_rfl) Zr2 Zwd rfl (by decide) (by decide) rfl (by decide) rfl Z5p (fun x=>by kernel_rfl)
abbrev Zrd:Shape:={ sl:=sl_42,bl:=[],ts:=ts_18,pin:=0 }
abbrev Zwo:Shape:={ sl:=sl_39,bl:=[],ts:=[y46],pin:=0 }
def Z6b (x:T69):Option (T63) :=
 bif (inb x.2.1 (List.length x.1.1.2.2.1)) then
 (Z4t ((getAt ((0:Int),false,((0:Int),(0:Int),([]:List Int),(0:Int)),(0:Int),(0:Int),([]:List T7),([]:List T7)) x.1.1.2.2.1 (toN x.2.1)),x.2.2)).bind fun r25 =>
 (Z6j (x.1.1,x.2.2.1,x.2.2.2.1)).bind fun r26 =>
 bif r26 then
 bif (inb x.2.1 (List.length x.1.1.2.2.1)) then
 (Z4v ((getAt ((0:Int),false,((0:Int),(0:Int),([]:List Int),(0:Int)),(0:Int),(0:Int),([]:List T7),([]:List T7)) x.1.1.2.2.1 (toN x.2.1)),x.2.2)).bind fun r27 =>
 (Z5l (x.1,x.2.1,r27.1)).bind fun r28 =>
 bif (r27.2.1.1 == (0:Int)) then
 (Z6x (r28,x.2.2.1)).bind fun r29 =>
 some r29
 else
 bif (r27.2.1.1 == (3:Int)) then
 some ((r28.1.1,r28.1.2.1,r28.1.2.2.1,r28.1.2.2.2.1,r28.1.2.2.2.2.1,r28.1.2.2.2.2.2.1,(3:Int)),r28.2)
 else
 bif (decide (r27.2.1.2.2.1.1 ≥ (0:Int))) then
 (Z5p (r28,x.2.1,r27.2.1.2.2.1,r27.2.1.2.2.2,false)).bind fun r29 =>
 (Z5p (r29,x.2.1,x.2.2,r27.2.1.2.1,(r27.2.1.1 == (2:Int)))).bind fun r30 =>
 some r30
 else
 (Z5p (r28,x.2.1,x.2.2,r27.2.1.2.1,(r27.2.1.1 == (2:Int)))).bind fun r29 =>
 some r29
 else
 none
 else
 (Z5l (x.1,x.2.1,r25.1)).bind fun r27 =>
 bif (r25.2.1.1 == (0:Int)) then
 (Z6x (r27,x.2.2.1)).bind fun r28 =>
 some r28
 else
 bif (r25.2.1.1 == (3:Int)) then
 some ((r27.1.1,r27.1.2.1,r27.1.2.2.1,r27.1.2.2.2.1,r27.1.2.2.2.2.1,r27.1.2.2.2.2.2.1,(3:Int)),r27.2)
 else
 bif (decide (r25.2.1.2.2.1.1 ≥ (0:Int))) then
 (Z5p (r27,x.2.1,r25.2.1.2.2.1,r25.2.1.2.2.2,false)).bind fun r28 =>
 (Z5p (r28,x.2.1,x.2.2,r25.2.1.2.1,(r25.2.1.1 == (2:Int)))).bind fun r29 =>
 some r29
 else
 (Z5p (r27,x.2.1,x.2.2,r25.2.1.2.1,(r25.2.1.1 == (2:Int)))).bind fun r28 =>
 some r28
 else
 none
abbrev Z11z:=Spec.shp Zrd Zwo Z6b
def Zi6:Ctx:={ tb:=mkTb T2.tbl,fx:=[(181,[],Z118),(210,[],Z123),(182,[],Z119),(178,[],Z11m),(183,[],Z12a),(180,[],Z11o)],sum:=[],nt:=78,pin:=0,nr:=true,ys:=[] }
theorem Z6c:Sound Tryz.prog 176 (Z11z) :=
 Sound.shp (C:=Zi6) (fn:=Tryz.f176) (by kernel_rfl) (c:=bodyOf Tryz.f176) (by kernel_rfl) (by decide) (ctxOK mixed tbl_ok rfl ⟨Z4u,Z6k,Z4w,Z5m,Z6y,Z5q,trivial⟩ trivial) (SumOK.of trivial) (by kernel_rfl) Zrd Zwo rfl (by decide) (by decide) rfl (by decide) rfl Z6b (fun x=>by kernel_rfl)
abbrev Zrc:Shape:={ sl:=sl_42,bl:=[],ts:=ts_18,pin:=0 }
abbrev Zwn:Shape:={ sl:=sl_39,bl:=[],ts:=[y46],pin:=0 }
def Z69 (x:T69):Option (T63) :=
 bif (x.2.2.1 == (2:Int)) then
 (Z6d (x.2.1,(4:Int),x.2.2.2.1)).bind fun r22 =>
 (Z6t (x.1,r22)).bind fun r23 =>
 (Z6b (r23,x.2.2.2.1,x.2.1,(0:Int),x.1.1.2.2.2.2.2.1)).bind fun r24 =>
 some r24
 else
 (Z6d (x.2.1,(2:Int),x.2.2.2.1)).bind fun r22 =>
 (Z6t (x.1,r22)).bind fun r23 =>
 (Z6b (r23,x.2.2.2.1,x.2.1,(0:Int),x.1.1.2.2.2.2.2.1)).bind fun r24 =>
 some r24
abbrev Z11y:=Spec.shp Zrc Zwn Z69
def Zi5:Ctx:={ tb:=mkTb T2.tbl,fx:=[(53,[],Z120),(52,[],Z128),(176,[],Z11z)],sum:=[],nt:=29,pin:=0,nr:=true,ys:=[] }
theorem Z6a:Sound Tryz.prog 133 (Z11y) :=
 Sound.shp (C:=Zi5) (fn:=Tryz.f133) (by kernel_rfl) (c:=bodyOf Tryz.f133) (by kernel_rfl) (by decide) (ctxOK mixed tbl_ok rfl ⟨Z6e,Z6u,Z6c,trivial⟩ trivial) (SumOK.of trivial) (by kernel_rfl) Zrc Zwn rfl (by decide) (by decide) rfl (by decide) rfl Z69 (fun x=>by kernel_rfl)
abbrev Zqh:Shape:={ sl:=[(0,(.hole y40))],bl:=[],ts:=[y40],pin:=0 }
abbrev Zvs:Shape:={ sl:=[(0,(.hole y40)),(1,(.hole (.slice y5))),(2,(.hole .bool))],bl:=[],ts:=[y40,(.slice y5),.bool],pin:=0 }
def Z4j (x:T43):Option ((Int × T40) × List (T7) × Bool) :=
 bif (x.1 == (Int.negSucc 0)) then
 some (x,([]:List T7),true)
 else
 bif x.2.1 then
 some (x,([]:List T7),true)
 else
 bif (decide ((((List.length x.2.2.2.2.2.1):Nat):Int) > (0:Int))) then
 some (x,([]:List T7),true)
 else
 some ((x.1,true,x.2.2.1,x.2.2.2.1,x.2.2.2.2.1,x.2.2.2.2.2.1,([]:List T7)),x.2.2.2.2.2.2,false)
abbrev Z113:=Spec.shp Zqh Zvs Z4j
def Zgy:Ctx:={ tb:=mkTb T2.tbl,fx:=[],sum:=[],nt:=26,pin:=0,nr:=true,ys:=[] }
theorem Z4k:Sound Tryz.prog 177 (Z113) :=
 Sound.shp (C:=Zgy) (fn:=Tryz.f177) (by kernel_rfl) (c:=bodyOf Tryz.f177) (by kernel_rfl) (by decide) (ctxOK mixed tbl_ok rfl trivial trivial) (SumOK.of trivial) (by kernel_rfl) Zqh Zvs rfl (by decide) (by decide) rfl (by decide) rfl Z4j (fun x=>by kernel_rfl)
abbrev Zno:Shape:={ sl:=[(3,(.ptr 0 [])),(5,(.ptr 1 [])),(6,(.ptr 2 [])),(8,(.hole (.slice y5))),(41,(.hole (.slice y5))),(42,(.hole (.int .i64))),(43,(.hole (.int .i64)))],bl:=bl_28,ts:=[(.slice y5),(.slice y5),(.int .i64),(.int .i64),y46,y5,(.int .i64),(.int .i64),(.int .i64),y4],pin:=0 }
abbrev Zm2:List (ETag × Shape):=[(.exit 0,{ sl:=[(3,(.ptr 0 [])),(6,(.ptr 1 []))],bl:=bl_29,ts:=[y46,(.int .i64),(.int .i64),(.int .i64),y4],pin:=0 })]
def Zcw (x:(List (T7) × List (T7) × Int × Int × T63 × T7 × Int × Int × Int × (Int × Int))):Option ((List (T7) × List (T7) × Int × Int × T63 × T7 × Int × Int × Int × (Int × Int)) ⊕ (T63 × Int × Int × Int × (Int × Int))) :=
 bif (decide (x.2.2.2.1 < x.2.2.1)) then
 bif (inb x.2.2.2.1 (List.length x.2.1)) then
 bif (sub3 (0:Int) x.2.2.2.1 (List.length x.1)) then
 (Z40 ((cut x.1 (toN (0:Int)) ((toN x.2.2.2.1) - (toN (0:Int)))),(getAt ((0:Int),(0:Int),(0:Int)) x.2.1 (toN x.2.2.2.1)).1)).bind fun r28 =>
 bif ((((List.length r28):Nat):Int) == x.2.2.2.1) then
 (Z5p (x.2.2.2.2.1,x.2.2.2.2.2.1.2.1,(getAt ((0:Int),(0:Int),(0:Int)) x.2.1 (toN x.2.2.2.1)),(0:Int),true)).bind fun r29 =>
 some (.inl (x.1,x.2.1,x.2.2.1,(IntKind.wrap .i64 (x.2.2.2.1+(1:Int))),r29,x.2.2.2.2.2.1,x.2.2.2.2.2.2.1,x.2.2.2.2.2.2.2.1,x.2.2.2.2.2.2.2.2.1,x.2.2.2.2.2.2.2.2.2))
 else
 some (.inl (x.1,x.2.1,x.2.2.1,(IntKind.wrap .i64 (x.2.2.2.1+(1:Int))),x.2.2.2.2.1,x.2.2.2.2.2.1,x.2.2.2.2.2.2.1,x.2.2.2.2.2.2.2.1,x.2.2.2.2.2.2.2.2.1,x.2.2.2.2.2.2.2.2.2))
 else
 none
 else
 none
 else
 some (.inr (x.2.2.2.2.1,x.2.2.2.2.2.2.1,x.2.2.2.2.2.2.2.1,x.2.2.2.2.2.2.2.2.1,x.2.2.2.2.2.2.2.2.2))
def Zie:Ctx:={ tb:=mkTb T2.tbl,fx:=[(177,[],Z113),(178,[],Z11m),(53,[],Z120),(52,[],Z128),(132,[],Z11w),(179,[],Z10u),(180,[],Z11o)],sum:=[],nt:=64,pin:=0,nr:=true,ys:=[] }
theorem Zcx:CSound Tryz.prog ⟨64,0,true⟩ (.loop (loopOf 9 Tryz.f134)) (Yay Zno Zm2 (loop Zcw)) :=
 Y8c (C:=Zie) (ctxOK mixed tbl_ok rfl ⟨Z4k,Z5m,Z6e,Z6u,Z66,Z41,Z5q,trivial⟩ trivial) (SumOK.of trivial) Zno Zm2 rfl rfl Zcw (fun x=>by kernel_rfl)
abbrev Zri:Shape:={ sl:=sl_42,bl:=[],ts:=ts_18,pin:=0 }
abbrev Zwt:Shape:={ sl:=sl_39,bl:=[],ts:=[y46],pin:=0 }
def Z6l (x:T69):Option (T63) :=
 bif (inb x.2.2.2.1 (List.length x.1.1.2.2.1)) then
 (Z4j (getAt ((0:Int),false,((0:Int),(0:Int),([]:List Int),(0:Int)),(0:Int),(0:Int),([]:List T7),([]:List T7)) x.1.1.2.2.1 (toN x.2.2.2.1))).bind fun r22 =>
 bif r22.2.2 then
 some ((x.1.1.1,x.1.1.2.1,x.1.1.2.2.1,x.1.1.2.2.2.1,x.1.1.2.2.2.2.1,x.1.1.2.2.2.2.2.1,(3:Int)),x.1.2)
 else
 (Z5l (x.1,x.2.2.2.1,r22.1)).bind fun r23 =>
 (Z6d (x.2.1,(7:Int),x.2.2.2.1)).bind fun r24 =>
 (Z6t (r23,r24)).bind fun r25 =>
 (Z65 (r25,x.2.1)).bind fun r26 =>
 (loop Zcw (r22.2.1,r22.2.1,(((List.length r22.2.1):Nat):Int),(0:Int),r26,x.2.2,(0:Int),(0:Int),(0:Int),(0:Int),(0:Int))).bind fun r27 =>
 some r27.1
 else
 none
abbrev Z124:=Spec.shp Zri Zwt Z6l
def Zid:Ctx:={ tb:=mkTb T2.tbl,fx:=[(177,[],Z113),(178,[],Z11m),(53,[],Z120),(52,[],Z128),(132,[],Z11w),(179,[],Z10u),(180,[],Z11o)],sum:=[(0,9,Yay Zno Zm2 (loop Zcw))],nt:=64,pin:=0,nr:=true,ys:=[] }
theorem Z6m:Sound Tryz.prog 134 (Z124) :=
 Sound.shp (C:=Zid) (fn:=Tryz.f134) (by kernel_rfl) (c:=bodyOf Tryz.f134) (by kernel_rfl) (by decide) (ctxOK mixed tbl_ok rfl ⟨Z4k,Z5m,Z6e,Z6u,Z66,Z41,Z5q,trivial⟩ trivial) (SumOK.of ⟨(Yb0 (d:=.loop (loopOf 9 Tryz.f134)) (by kernel_rfl) Zcx),trivial⟩) (by kernel_rfl) Zri Zwt rfl (by decide) (by decide) rfl (by decide) rfl Z6l (fun x=>by kernel_rfl)
abbrev Znn:Shape:={ sl:=[(1,(.hole (.int .i64))),(4,(.ptr 0 [])),(8,(.ptr 1 [])),(9,(.hole (.int .i64))),(60,(.hole (.slice y2))),(61,(.hole (.int .i64))),(62,(.hole (.int .i64)))],bl:=bl_29,ts:=[(.int .i64),(.int .i64),(.slice y2),(.int .i64),(.int .i64),y46,(.int .i64),(.int .i64),(.int .i64),y4],pin:=0 }
abbrev Zm1:List (ETag × Shape):=[(.exit 0,{ sl:=[(1,(.hole (.int .i64))),(4,(.ptr 0 [])),(8,(.ptr 1 []))],bl:=bl_29,ts:=[(.int .i64),y46,(.int .i64),(.int .i64),(.int .i64),y4],pin:=0 })]
def Zcu (x:(Int × Int × List T0 × Int × Int × T63 × Int × Int × Int × (Int × Int))):Option ((Int × Int × List T0 × Int × Int × T63 × Int × Int × Int × (Int × Int)) ⊕ (Int × T63 × Int × Int × Int × (Int × Int))) :=
 bif (decide (x.2.2.2.2.1 < x.2.2.2.1)) then
 bif (inb x.2.2.2.2.1 (List.length x.2.2.1)) then
 bif (inb (getAt (false,(0:Int)) x.2.2.1 (toN x.2.2.2.2.1)).2 (List.length x.2.2.2.2.2.1.1.2.2.1)) then
 (Z4t ((getAt ((0:Int),false,((0:Int),(0:Int),([]:List Int),(0:Int)),(0:Int),(0:Int),([]:List T7),([]:List T7)) x.2.2.2.2.2.1.1.2.2.1 (toN (getAt (false,(0:Int)) x.2.2.1 (toN x.2.2.2.2.1)).2)),x.1,x.2.2.2.2.1,x.2.1)).bind fun r25 =>
 bif (getAt (false,(0:Int)) x.2.2.1 (toN x.2.2.2.2.1)).1 then
 bif (inb (getAt (false,(0:Int)) x.2.2.1 (toN x.2.2.2.2.1)).2 (List.length x.2.2.2.2.2.1.1.2.2.1)) then
 (Z4v ((getAt ((0:Int),false,((0:Int),(0:Int),([]:List Int),(0:Int)),(0:Int),(0:Int),([]:List T7),([]:List T7)) x.2.2.2.2.2.1.1.2.2.1 (toN (getAt (false,(0:Int)) x.2.2.1 (toN x.2.2.2.2.1)).2)),x.1,x.2.2.2.2.1,x.2.1)).bind fun r26 =>
 (Z5l (x.2.2.2.2.2.1,(getAt (false,(0:Int)) x.2.2.1 (toN x.2.2.2.2.1)).2,r26.1)).bind fun r27 =>
 some (.inl (x.1,x.2.1,x.2.2.1,x.2.2.2.1,(IntKind.wrap .i64 (x.2.2.2.2.1+(1:Int))),r27,x.2.2.2.2.2.2.1,x.2.2.2.2.2.2.2.1,x.2.2.2.2.2.2.2.2.1,x.2.2.2.2.2.2.2.2.2))
 else
 none
 else
 (Z5l (x.2.2.2.2.2.1,(getAt (false,(0:Int)) x.2.2.1 (toN x.2.2.2.2.1)).2,r25.1)).bind fun r26 =>
 some (.inl (x.1,x.2.1,x.2.2.1,x.2.2.2.1,(IntKind.wrap .i64 (x.2.2.2.2.1+(1:Int))),r26,x.2.2.2.2.2.2.1,x.2.2.2.2.2.2.2.1,x.2.2.2.2.2.2.2.2.1,x.2.2.2.2.2.2.2.2.2))
 else
 none
 else
 none
 else
 some (.inr (x.1,x.2.2.2.2.2.1,x.2.2.2.2.2.2.1,x.2.2.2.2.2.2.2.1,x.2.2.2.2.2.2.2.2.1,x.2.2.2.2.2.2.2.2.2))
def Zib:Ctx:={ tb:=mkTb T2.tbl,fx:=[(53,[],Z120),(52,[],Z128),(176,[],Z11z),(132,[],Z11w),(181,[],Z118),(182,[],Z119),(178,[],Z11m)],sum:=[],nt:=108,pin:=0,nr:=true,ys:=[] }
theorem Zcv:CSound Tryz.prog ⟨108,0,true⟩ (.loop (loopOf 10 Tryz.f135)) (Yay Znn Zm1 (loop Zcu)) :=
 Y8c (C:=Zib) (ctxOK mixed tbl_ok rfl ⟨Z6e,Z6u,Z6c,Z66,Z4u,Z4w,Z5m,trivial⟩ trivial) (SumOK.of trivial) Znn Zm1 rfl rfl Zcu (fun x=>by kernel_rfl)
abbrev Zrg:Shape:={ sl:=[(0,(.hole y46)),(1,(.hole (.int .i64))),(2,(.hole (.int .i64))),(3,(.hole y5))],bl:=[],ts:=[y46,(.int .i64),(.int .i64),y5],pin:=0 }
abbrev Zwr:Shape:={ sl:=sl_39,bl:=[],ts:=[y46],pin:=0 }
def Z6h (x:(T63 × Int × Int × T7)):Option (T63) :=
 (Z6d (x.2.1,(8:Int),x.2.2.2.2.1)).bind fun r22 =>
 (Z6t (x.1,r22)).bind fun r23 =>
 bif (inb x.2.2.2.2.1 (List.length r23.1.1.2.2.2.2.1)) then
 bif (decide (x.2.2.1 ≥ (0:Int))) then
 bif (inb x.2.2.1 (List.length (getAt (([]:List T0),false) r23.1.1.2.2.2.2.1 (toN x.2.2.2.2.1)).1)) then
 (Z6b (r23,(getAt (false,(0:Int)) (getAt (([]:List T0),false) r23.1.1.2.2.2.2.1 (toN x.2.2.2.2.1)).1 (toN x.2.2.1)).2,x.2.1,x.2.2.1,x.1.1.2.2.2.2.2.1)).bind fun r24 =>
 some r24
 else
 none
 else
 bif (getAt (([]:List T0),false) r23.1.1.2.2.2.2.1 (toN x.2.2.2.2.1)).2 then
 (Z6t (r23,x.2.1,(9:Int),x.2.2.2.2.1,(0:Int),x.1.1.2.2.2.2.2.1)).bind fun r24 =>
 (Z65 (r24,x.2.1)).bind fun r25 =>
 some r25
 else
 (loop Zcu (x.2.1,x.1.1.2.2.2.2.2.1,(getAt (([]:List T0),false) r23.1.1.2.2.2.2.1 (toN x.2.2.2.2.1)).1,(((List.length (getAt (([]:List T0),false) r23.1.1.2.2.2.2.1 (toN x.2.2.2.2.1)).1):Nat):Int),(0:Int),r23,(0:Int),(0:Int),(0:Int),(0:Int),(0:Int))).bind fun r24 =>
 (Z6x (r24.2.1,r24.1)).bind fun r25 =>
 some r25
 else
 none
abbrev Z122:=Spec.shp Zrg Zwr Z6h
def Zia:Ctx:={ tb:=mkTb T2.tbl,fx:=[(53,[],Z120),(52,[],Z128),(176,[],Z11z),(132,[],Z11w),(181,[],Z118),(182,[],Z119),(178,[],Z11m),(183,[],Z12a)],sum:=[(0,10,Yay Znn Zm1 (loop Zcu))],nt:=108,pin:=0,nr:=true,ys:=[] }
theorem Z6i:Sound Tryz.prog 135 (Z122) :=
 Sound.shp (C:=Zia) (fn:=Tryz.f135) (by kernel_rfl) (c:=bodyOf Tryz.f135) (by kernel_rfl) (by decide) (ctxOK mixed tbl_ok rfl ⟨Z6e,Z6u,Z6c,Z66,Z4u,Z4w,Z5m,Z6y,trivial⟩ trivial) (SumOK.of ⟨(Yb0 (d:=.loop (loopOf 10 Tryz.f135)) (by kernel_rfl) Zcv),trivial⟩) (by kernel_rfl) Zrg Zwr rfl (by decide) (by decide) rfl (by decide) rfl Z6h (fun x=>by kernel_rfl)
abbrev Zqs:Shape:={ sl:=[(0,(.hole y15)),(1,(.hole y5))],bl:=[],ts:=[y15,y5],pin:=0 }
abbrev Zw3:Shape:={ sl:=[(0,(.hole y15)),(1,(.hole .bool)),(2,(.hole (.int .i64)))],bl:=[],ts:=[y15,.bool,(.int .i64)],pin:=0 }
def Z55 (x:(T18 × T7)):Option (T18 × Bool × Int) :=
 bif (Bool.not x.1.1) then
 some ((true,([]:List T7)),true,(0:Int))
 else
 (Z44 (x.1.2,x.2.1,x.2.2.1)).bind fun r26 =>
 bif r26 then
 some ((false,([]:List T7)),false,(7:Int))
 else
 bif ((((List.length x.1.2):Nat):Int) == (64:Int)) then
 some ((false,([]:List T7)),false,(5:Int))
 else
 bif (fits ((List.length ([]:List T7))+(List.length x.1.2))) then
 bif (fits ((List.length (([]:List T7)++x.1.2))+(List.length (x.2 :: ([]:List T7))))) then
 some ((true,((([]:List T7)++x.1.2)++(x.2 :: ([]:List T7)))),false,(0:Int))
 else
 none
 else
 none
abbrev Z11e:=Spec.shp Zqs Zw3 Z55
def Zhb:Ctx:={ tb:=mkTb T2.tbl,fx:=[(237,[],Z10w)],sum:=[],nt:=35,pin:=0,nr:=true,ys:=[] }
theorem Z56:Sound Tryz.prog 216 (Z11e) :=
 Sound.shp (C:=Zhb) (fn:=Tryz.f216) (by kernel_rfl) (c:=bodyOf Tryz.f216) (by kernel_rfl) (by decide) (ctxOK mixed tbl_ok rfl ⟨Z45,trivial⟩ trivial) (SumOK.of trivial) (by kernel_rfl) Zqs Zw3 rfl (by decide) (by decide) rfl (by decide) rfl Z55 (fun x=>by kernel_rfl)
abbrev Znk:Shape:={ sl:=[(1,(.hole (.int .i64))),(3,(.ptr 0 [])),(5,(.ptr 1 [])),(6,(.ptr 2 [])),(7,(.sl 3)),(13,(.hole y19)),(14,(.hole (.int .i64))),(15,(.hole (.int .i64)))],bl:=[.var (.hole y46),.var (.hole y15),.var (.pr (.pr (.pr .nl (.pr (.hole (.int .i64)) (.pr (.hole (.int .i64)) (.pr (.hole (.int .i64)) (.pr .nl .nl))))) (.pr .nl (.pr .nl (.pr .nl (.pr .nl (.hole y4)))))) .nl),.row y15],ts:=[(.int .i64),y19,(.int .i64),(.int .i64),y46,y15,(.int .i64),(.int .i64),(.int .i64),y4,y19],pin:=0 }
abbrev Zly:List (ETag × Shape):=[(.exit 0,{ sl:=sl_40,bl:=[.var (.hole y46),.var (.pr (.pr (.pr .nl (.pr (.hole (.int .i64)) (.pr (.hole (.int .i64)) (.pr (.hole (.int .i64)) (.pr .nl .nl))))) (.pr .nl (.pr .nl (.pr .nl (.pr .nl (.hole y4)))))) .nl),.row y15],ts:=[y46,(.int .i64),(.int .i64),(.int .i64),y4,y19],pin:=0 })]
def Zco (x:(Int × List (T18) × Int × Int × T63 × T18 × Int × Int × Int × (Int × Int) × List (T18))):Option ((Int × List (T18) × Int × Int × T63 × T18 × Int × Int × Int × (Int × Int) × List (T18)) ⊕ (T63 × Int × Int × Int × (Int × Int) × List (T18))) :=
 bif (decide (x.2.2.2.1 < x.2.2.1)) then
 bif (inb x.2.2.2.1 (List.length x.2.1)) then
 bif (x.2.2.2.1 == x.1) then
 bif (fits ((List.length x.2.2.2.2.2.2.2.2.2.2)+(List.length (x.2.2.2.2.2.1 :: ([]:List T22))))) then
 some (.inl (x.1,x.2.1,x.2.2.1,(IntKind.wrap .i64 (x.2.2.2.1+(1:Int))),x.2.2.2.2.1,x.2.2.2.2.2.1,x.2.2.2.2.2.2.1,x.2.2.2.2.2.2.2.1,x.2.2.2.2.2.2.2.2.1,x.2.2.2.2.2.2.2.2.2.1,(x.2.2.2.2.2.2.2.2.2.2++(x.2.2.2.2.2.1 :: ([]:List T22)))))
 else
 none
 else
 bif (fits ((List.length x.2.2.2.2.2.2.2.2.2.2)+(List.length ((getAt (false,([]:List T7)) x.2.1 (toN x.2.2.2.1)) :: ([]:List T22))))) then
 some (.inl (x.1,x.2.1,x.2.2.1,(IntKind.wrap .i64 (x.2.2.2.1+(1:Int))),x.2.2.2.2.1,x.2.2.2.2.2.1,x.2.2.2.2.2.2.1,x.2.2.2.2.2.2.2.1,x.2.2.2.2.2.2.2.2.1,x.2.2.2.2.2.2.2.2.2.1,(x.2.2.2.2.2.2.2.2.2.2++((getAt (false,([]:List T7)) x.2.1 (toN x.2.2.2.1)) :: ([]:List T22)))))
 else
 none
 else
 none
 else
 some (.inr (x.2.2.2.2.1,x.2.2.2.2.2.2.1,x.2.2.2.2.2.2.2.1,x.2.2.2.2.2.2.2.2.1,x.2.2.2.2.2.2.2.2.2.1,x.2.2.2.2.2.2.2.2.2.2))
def Zi1:Ctx:={ tb:=mkTb T2.tbl,fx:=[],sum:=[],nt:=33,pin:=0,nr:=true,ys:=[] }
theorem Zcp:CSound Tryz.prog ⟨33,0,true⟩ (.loop (loopOf 4 Tryz.f217)) (Yay Znk Zly (loop Zco)) :=
 Y8c (C:=Zi1) (ctxOK mixed tbl_ok rfl trivial trivial) (SumOK.of trivial) Znk Zly rfl rfl Zco (fun x=>by kernel_rfl)
abbrev Zr9:Shape:={ sl:=[(0,(.hole y46)),(1,(.hole (.int .i64))),(2,(.hole y15))],bl:=[],ts:=[y46,(.int .i64),y15],pin:=0 }
abbrev Zwk:Shape:={ sl:=sl_39,bl:=[],ts:=[y46],pin:=0 }
def Z63 (x:(T63 × Int × T18)):Option (T63) :=
 (loop Zco (x.2.1,x.1.1.2.2.2.1,(((List.length x.1.1.2.2.2.1):Nat):Int),(0:Int),x.1,x.2.2,(0:Int),(0:Int),(0:Int),((0:Int),(0:Int)),([]:List T22))).bind fun r27 =>
 some ((r27.1.1.1,r27.1.1.2.1,r27.1.1.2.2.1,r27.2.2.2.2.2,r27.1.1.2.2.2.2),r27.1.2)
abbrev Z11v:=Spec.shp Zr9 Zwk Z63
def Zi0:Ctx:={ tb:=mkTb T2.tbl,fx:=[],sum:=[(0,4,Yay Znk Zly (loop Zco))],nt:=33,pin:=0,nr:=true,ys:=[] }
theorem Z64:Sound Tryz.prog 217 (Z11v) :=
 Sound.shp (C:=Zi0) (fn:=Tryz.f217) (by kernel_rfl) (c:=bodyOf Tryz.f217) (by kernel_rfl) (by decide) (ctxOK mixed tbl_ok rfl trivial trivial) (SumOK.of ⟨(Yb0 (d:=.loop (loopOf 4 Tryz.f217)) (by kernel_rfl) Zcp),trivial⟩) (by kernel_rfl) Zr9 Zwk rfl (by decide) (by decide) rfl (by decide) rfl Z63 (fun x=>by kernel_rfl)
abbrev Zrl:Shape:={ sl:=sl_42,bl:=[],ts:=ts_18,pin:=0 }
abbrev Zww:Shape:={ sl:=sl_39,bl:=[],ts:=[y46],pin:=0 }
def Z6r (x:T69):Option (T63) :=
 (Z6d (x.2.1,(10:Int),x.2.2.2.1)).bind fun r23 =>
 (Z6t (x.1,r23)).bind fun r24 =>
 bif (inb x.2.2.2.1 (List.length r24.1.2.2.2.1)) then
 (Z55 ((getAt (false,([]:List T7)) r24.1.2.2.2.1 (toN x.2.2.2.1)),x.2.1,(0:Int),x.1.1.2.2.2.2.2.1)).bind fun r25 =>
 (Z63 (r24,x.2.2.2.1,r25.1)).bind fun r26 =>
 bif (Bool.not r25.2.1) then
 (Z6x (r26,x.2.1)).bind fun r27 =>
 some r27
 else
 (Z6t (r26,x.2.1,(11:Int),x.2.2.2.1,(0:Int),x.1.1.2.2.2.2.2.1)).bind fun r27 =>
 (Z65 (r27,x.2.1)).bind fun r28 =>
 some r28
 else
 none
abbrev Z127:=Spec.shp Zrl Zww Z6r
def Zii:Ctx:={ tb:=mkTb T2.tbl,fx:=[(53,[],Z120),(52,[],Z128),(216,[],Z11e),(217,[],Z11v),(183,[],Z12a),(132,[],Z11w)],sum:=[],nt:=54,pin:=0,nr:=true,ys:=[] }
theorem Z6s:Sound Tryz.prog 184 (Z127) :=
 Sound.shp (C:=Zii) (fn:=Tryz.f184) (by kernel_rfl) (c:=bodyOf Tryz.f184) (by kernel_rfl) (by decide) (ctxOK mixed tbl_ok rfl ⟨Z6e,Z6u,Z56,Z64,Z6y,Z66,trivial⟩ trivial) (SumOK.of trivial) (by kernel_rfl) Zrl Zww rfl (by decide) (by decide) rfl (by decide) rfl Z6r (fun x=>by kernel_rfl)
abbrev Zqr:Shape:={ sl:=[(0,(.hole y15))],bl:=[],ts:=[y15],pin:=0 }
abbrev Zw2:Shape:={ sl:=[(0,(.hole y15)),(1,(.hole y5)),(2,(.hole .bool))],bl:=[],ts:=[y15,y5,.bool],pin:=0 }
def Z53 (x:(T18)):Option (T18 × T7 × Bool) :=
 bif ((((List.length x.2):Nat):Int) == (0:Int)) then
 some ((false,([]:List T7)),((0:Int),(0:Int),(0:Int)),false)
 else
 bif (sub3 (1:Int) (((List.length x.2):Nat):Int) (List.length x.2)) then
 bif (inb (0:Int) (List.length x.2)) then
 some ((true,(cut x.2 (toN (1:Int)) ((toN (((List.length x.2):Nat):Int)) - (toN (1:Int))))),(getAt ((0:Int),(0:Int),(0:Int)) x.2 (toN (0:Int))),true)
 else
 none
 else
 none
abbrev Z11d:=Spec.shp Zqr Zw2 Z53
def Zha:Ctx:={ tb:=mkTb T2.tbl,fx:=[],sum:=[],nt:=19,pin:=0,nr:=true,ys:=[] }
theorem Z54:Sound Tryz.prog 218 (Z11d) :=
 Sound.shp (C:=Zha) (fn:=Tryz.f218) (by kernel_rfl) (c:=bodyOf Tryz.f218) (by kernel_rfl) (by decide) (ctxOK mixed tbl_ok rfl trivial trivial) (SumOK.of trivial) (by kernel_rfl) Zqr Zw2 rfl (by decide) (by decide) rfl (by decide) rfl Z53 (fun x=>by kernel_rfl)
abbrev Zr4:Shape:={ sl:=sl_42,bl:=[],ts:=ts_18,pin:=0 }
abbrev Zwf:Shape:={ sl:=sl_39,bl:=[],ts:=[y46],pin:=0 }
def Z5t (x:T69):Option (T63) :=
 bif (inb x.2.2.2.1 (List.length x.1.1.2.2.2.1)) then
 bif (Bool.not (getAt (false,([]:List T7)) x.1.1.2.2.2.1 (toN x.2.2.2.1)).1) then
 some ((x.1.1.1,x.1.1.2.1,x.1.1.2.2.1,x.1.1.2.2.2.1,x.1.1.2.2.2.2.1,x.1.1.2.2.2.2.2.1,(3:Int)),x.1.2)
 else
 bif (inb x.2.2.2.1 (List.length x.1.1.2.2.2.1)) then
 (Z53 (getAt (false,([]:List T7)) x.1.1.2.2.2.1 (toN x.2.2.2.1))).bind fun r23 =>
 (Z63 (x.1,x.2.2.2.1,r23.1)).bind fun r24 =>
 (Z6d (x.2.1,(12:Int),x.2.2.2.1)).bind fun r25 =>
 (Z6t (r24,r25)).bind fun r26 =>
 (Z65 (r26,x.2.1)).bind fun r27 =>
 bif r23.2.2 then
 (Z6t (r27,r23.2.1.1,(11:Int),x.2.2.2.1,(0:Int),r23.2.1.2.2)).bind fun r28 =>
 (Z65 (r28,r23.2.1.1)).bind fun r29 =>
 some r29
 else
 some r27
 else
 none
 else
 none
abbrev Z11q:=Spec.shp Zr4 Zwf Z5t
def Zht:Ctx:={ tb:=mkTb T2.tbl,fx:=[(218,[],Z11d),(217,[],Z11v),(53,[],Z120),(52,[],Z128),(132,[],Z11w)],sum:=[],nt:=60,pin:=0,nr:=true,ys:=[] }
theorem Z5u:Sound Tryz.prog 185 (Z11q) :=
 Sound.shp (C:=Zht) (fn:=Tryz.f185) (by kernel_rfl) (c:=bodyOf Tryz.f185) (by kernel_rfl) (by decide) (ctxOK mixed tbl_ok rfl ⟨Z54,Z64,Z6e,Z6u,Z66,trivial⟩ trivial) (SumOK.of trivial) (by kernel_rfl) Zr4 Zwf rfl (by decide) (by decide) rfl (by decide) rfl Z5t (fun x=>by kernel_rfl)
abbrev Zqt:Shape:={ sl:=sl_30,bl:=[],ts:=[y23,y5],pin:=0 }
abbrev Zw4:Shape:={ sl:=sl_31,bl:=[],ts:=ts_15,pin:=0 }
def Z57 (x:T30):Option T34 :=
 bif (x.1.1 == (0:Int)) then
 some (((1:Int),x.2.1,([]:List T7)),(0:Int),(0:Int))
 else
 bif (x.1.1 == (2:Int)) then
 some (x.1,(2:Int),(0:Int))
 else
 bif (x.1.2.1 == x.2.1) then
 some (((0:Int),(0:Int),([]:List T7)),(0:Int),(6:Int))
 else
 (Z44 (x.1.2.2,x.2.1,x.2.2.1)).bind fun r26 =>
 bif r26 then
 some (((0:Int),(0:Int),([]:List T7)),(0:Int),(7:Int))
 else
 bif ((((List.length x.1.2.2):Nat):Int) == (64:Int)) then
 some (((0:Int),(0:Int),([]:List T7)),(0:Int),(5:Int))
 else
 bif (fits ((List.length ([]:List T7))+(List.length x.1.2.2))) then
 bif (fits ((List.length (([]:List T7)++x.1.2.2))+(List.length (x.2 :: ([]:List T7))))) then
 some ((x.1.1,x.1.2.1,((([]:List T7)++x.1.2.2)++(x.2 :: ([]:List T7)))),(1:Int),(0:Int))
 else
 none
 else
 none
abbrev Z11f:=Spec.shp Zqt Zw4 Z57
def Zhc:Ctx:={ tb:=mkTb T2.tbl,fx:=[(237,[],Z10w)],sum:=[],nt:=48,pin:=0,nr:=true,ys:=[] }
theorem Z58:Sound Tryz.prog 219 (Z11f) :=
 Sound.shp (C:=Zhc) (fn:=Tryz.f219) (by kernel_rfl) (c:=bodyOf Tryz.f219) (by kernel_rfl) (by decide) (ctxOK mixed tbl_ok rfl ⟨Z45,trivial⟩ trivial) (SumOK.of trivial) (by kernel_rfl) Zqt Zw4 rfl (by decide) (by decide) rfl (by decide) rfl Z57 (fun x=>by kernel_rfl)
abbrev Znl:Shape:={ sl:=[(1,(.hole (.int .i64))),(3,(.ptr 0 [])),(5,(.ptr 1 [])),(6,(.ptr 2 [])),(7,(.sl 3)),(13,(.hole y26)),(14,(.hole (.int .i64))),(15,(.hole (.int .i64)))],bl:=[.var (.hole y46),.var (.hole y23),.var (.pr (.pr (.pr .nl (.pr (.hole (.int .i64)) (.pr (.hole (.int .i64)) (.pr (.hole (.int .i64)) (.pr .nl .nl))))) (.pr .nl (.pr .nl (.pr .nl (.pr .nl (.hole y4)))))) .nl),.row y23],ts:=[(.int .i64),y26,(.int .i64),(.int .i64),y46,y23,(.int .i64),(.int .i64),(.int .i64),y4,y26],pin:=0 }
abbrev Zlz:List (ETag × Shape):=[(.exit 0,{ sl:=sl_40,bl:=[.var (.hole y46),.var (.pr (.pr (.pr .nl (.pr (.hole (.int .i64)) (.pr (.hole (.int .i64)) (.pr (.hole (.int .i64)) (.pr .nl .nl))))) (.pr .nl (.pr .nl (.pr .nl (.pr .nl (.hole y4)))))) .nl),.row y23],ts:=[y46,(.int .i64),(.int .i64),(.int .i64),y4,y26],pin:=0 })]
def Zcq (x:(Int × List T29 × Int × Int × T63 × (Int × T13) × Int × Int × Int × (Int × Int) × List T29)):Option ((Int × List T29 × Int × Int × T63 × (Int × T13) × Int × Int × Int × (Int × Int) × List T29) ⊕ (T63 × Int × Int × Int × (Int × Int) × List T29)) :=
 bif (decide (x.2.2.2.1 < x.2.2.1)) then
 bif (inb x.2.2.2.1 (List.length x.2.1)) then
 bif (x.2.2.2.1 == x.1) then
 bif (fits ((List.length x.2.2.2.2.2.2.2.2.2.2)+(List.length (x.2.2.2.2.2.1 :: ([]:List (Int × T14)))))) then
 some (.inl (x.1,x.2.1,x.2.2.1,(IntKind.wrap .i64 (x.2.2.2.1+(1:Int))),x.2.2.2.2.1,x.2.2.2.2.2.1,x.2.2.2.2.2.2.1,x.2.2.2.2.2.2.2.1,x.2.2.2.2.2.2.2.2.1,x.2.2.2.2.2.2.2.2.2.1,(x.2.2.2.2.2.2.2.2.2.2++(x.2.2.2.2.2.1 :: ([]:List (Int × T14))))))
 else
 none
 else
 bif (fits ((List.length x.2.2.2.2.2.2.2.2.2.2)+(List.length ((getAt ((0:Int),(0:Int),([]:List T7)) x.2.1 (toN x.2.2.2.1)) :: ([]:List (Int × T14)))))) then
 some (.inl (x.1,x.2.1,x.2.2.1,(IntKind.wrap .i64 (x.2.2.2.1+(1:Int))),x.2.2.2.2.1,x.2.2.2.2.2.1,x.2.2.2.2.2.2.1,x.2.2.2.2.2.2.2.1,x.2.2.2.2.2.2.2.2.1,x.2.2.2.2.2.2.2.2.2.1,(x.2.2.2.2.2.2.2.2.2.2++((getAt ((0:Int),(0:Int),([]:List T7)) x.2.1 (toN x.2.2.2.1)) :: ([]:List (Int × T14))))))
 else
 none
 else
 none
 else
 some (.inr (x.2.2.2.2.1,x.2.2.2.2.2.2.1,x.2.2.2.2.2.2.2.1,x.2.2.2.2.2.2.2.2.1,x.2.2.2.2.2.2.2.2.2.1,x.2.2.2.2.2.2.2.2.2.2))
def Zi4:Ctx:={ tb:=mkTb T2.tbl,fx:=[],sum:=[],nt:=33,pin:=0,nr:=true,ys:=[] }
theorem Zcr:CSound Tryz.prog ⟨33,0,true⟩ (.loop (loopOf 4 Tryz.f220)) (Yay Znl Zlz (loop Zcq)) :=
 Y8c (C:=Zi4) (ctxOK mixed tbl_ok rfl trivial trivial) (SumOK.of trivial) Znl Zlz rfl rfl Zcq (fun x=>by kernel_rfl)
abbrev Zrb:Shape:={ sl:=[(0,(.hole y46)),(1,(.hole (.int .i64))),(2,(.hole y23))],bl:=[],ts:=[y46,(.int .i64),y23],pin:=0 }
abbrev Zwm:Shape:={ sl:=sl_39,bl:=[],ts:=[y46],pin:=0 }
def Z67 (x:(T63 × Int × (Int × T13))):Option (T63) :=
 (loop Zcq (x.2.1,x.1.1.2.2.2.2.1,(((List.length x.1.1.2.2.2.2.1):Nat):Int),(0:Int),x.1,x.2.2,(0:Int),(0:Int),(0:Int),((0:Int),(0:Int)),([]:List (Int × T14)))).bind fun r27 =>
 some ((r27.1.1.1,r27.1.1.2.1,r27.1.1.2.2.1,r27.1.1.2.2.2.1,r27.2.2.2.2.2,r27.1.1.2.2.2.2.2),r27.1.2)
abbrev Z11x:=Spec.shp Zrb Zwm Z67
def Zi3:Ctx:={ tb:=mkTb T2.tbl,fx:=[],sum:=[(0,4,Yay Znl Zlz (loop Zcq))],nt:=33,pin:=0,nr:=true,ys:=[] }
theorem Z68:Sound Tryz.prog 220 (Z11x) :=
 Sound.shp (C:=Zi3) (fn:=Tryz.f220) (by kernel_rfl) (c:=bodyOf Tryz.f220) (by kernel_rfl) (by decide) (ctxOK mixed tbl_ok rfl trivial trivial) (SumOK.of ⟨(Yb0 (d:=.loop (loopOf 4 Tryz.f220)) (by kernel_rfl) Zcr),trivial⟩) (by kernel_rfl) Zrb Zwm rfl (by decide) (by decide) rfl (by decide) rfl Z67 (fun x=>by kernel_rfl)
abbrev Zr1:Shape:={ sl:=sl_42,bl:=[],ts:=ts_18,pin:=0 }
abbrev Zwc:Shape:={ sl:=sl_39,bl:=[],ts:=[y46],pin:=0 }
def Z5n (x:T69):Option (T63) :=
 (Z6d (x.2.1,(13:Int),x.2.2.2.1)).bind fun r23 =>
 (Z6t (x.1,r23)).bind fun r24 =>
 bif (inb x.2.2.2.1 (List.length r24.1.2.2.2.2.1)) then
 (Z57 ((getAt ((0:Int),(0:Int),([]:List T7)) r24.1.2.2.2.2.1 (toN x.2.2.2.1)),x.2.1,(0:Int),x.1.1.2.2.2.2.2.1)).bind fun r25 =>
 bif (r25.2.2 != (0:Int)) then
 (Z6x (r24,x.2.1)).bind fun r26 =>
 some r26
 else
 (Z67 (r24,x.2.2.2.1,r25.1)).bind fun r26 =>
 bif (r25.2.1 == (0:Int)) then
 (Z65 (r26,x.2.1)).bind fun r27 =>
 some r27
 else
 bif (r25.2.1 == (1:Int)) then
 (Z6x (r26,x.2.1)).bind fun r27 =>
 some r27
 else
 (Z6t (r26,x.2.1,(15:Int),x.2.2.2.1,(0:Int),x.1.1.2.2.2.2.2.1)).bind fun r27 =>
 (Z6v (r27,x.2.1,x.2.2.2.2)).bind fun r28 =>
 some r28
 else
 none
abbrev Z11n:=Spec.shp Zr1 Zwc Z5n
def Zhp:Ctx:={ tb:=mkTb T2.tbl,fx:=[(53,[],Z120),(52,[],Z128),(219,[],Z11f),(183,[],Z12a),(220,[],Z11x),(132,[],Z11w),(51,[],Z129)],sum:=[],nt:=66,pin:=0,nr:=true,ys:=[] }
theorem Z5o:Sound Tryz.prog 186 (Z11n) :=
 Sound.shp (C:=Zhp) (fn:=Tryz.f186) (by kernel_rfl) (c:=bodyOf Tryz.f186) (by kernel_rfl) (by decide) (ctxOK mixed tbl_ok rfl ⟨Z6e,Z6u,Z58,Z6y,Z68,Z66,Z6w,trivial⟩ trivial) (SumOK.of trivial) (by kernel_rfl) Zr1 Zwc rfl (by decide) (by decide) rfl (by decide) rfl Z5n (fun x=>by kernel_rfl)
abbrev Zqu:Shape:={ sl:=[(0,(.hole y23)),(1,(.hole (.int .i64)))],bl:=[],ts:=[y23,(.int .i64)],pin:=0 }
abbrev Zw5:Shape:={ sl:=[(0,(.hole y23)),(1,(.hole (.slice y5))),(2,(.hole .bool))],bl:=[],ts:=[y23,(.slice y5),.bool],pin:=0 }
def Z59 (x:((Int × T13) × Int)):Option ((Int × T13) × List (T7) × Bool) :=
 bif (x.1.1 != (1:Int)) then
 some (((0:Int),(0:Int),([]:List T7)),([]:List T7),false)
 else
 bif (x.1.2.1 != x.2) then
 some (((0:Int),(0:Int),([]:List T7)),([]:List T7),false)
 else
 some (((2:Int),(0:Int),([]:List T7)),x.1.2.2,true)
abbrev Z11g:=Spec.shp Zqu Zw5 Z59
def Zhd:Ctx:={ tb:=mkTb T2.tbl,fx:=[],sum:=[],nt:=20,pin:=0,nr:=true,ys:=[] }
theorem Z5a:Sound Tryz.prog 221 (Z11g) :=
 Sound.shp (C:=Zhd) (fn:=Tryz.f221) (by kernel_rfl) (c:=bodyOf Tryz.f221) (by kernel_rfl) (by decide) (ctxOK mixed tbl_ok rfl trivial trivial) (SumOK.of trivial) (by kernel_rfl) Zqu Zw5 rfl (by decide) (by decide) rfl (by decide) rfl Z59 (fun x=>by kernel_rfl)
abbrev Znh:Shape:={ sl:=[(3,(.ptr 0 [])),(5,(.ptr 1 [])),(6,(.ptr 2 [])),(42,(.hole (.slice y5))),(43,(.hole (.int .i64))),(44,(.hole (.int .i64)))],bl:=bl_28,ts:=[(.slice y5),(.int .i64),(.int .i64),y46,y5,(.int .i64),(.int .i64),(.int .i64),y4],pin:=0 }
abbrev Zlv:List (ETag × Shape):=[(.exit 0,{ sl:=[(3,(.ptr 0 [])),(6,(.ptr 1 []))],bl:=bl_29,ts:=[y46,(.int .i64),(.int .i64),(.int .i64),y4],pin:=0 })]
def Zci (x:(List (T7) × Int × Int × T63 × T7 × Int × Int × Int × (Int × Int))):Option ((List (T7) × Int × Int × T63 × T7 × Int × Int × Int × (Int × Int)) ⊕ (T63 × Int × Int × Int × (Int × Int))) :=
 bif (decide (x.2.2.1 < x.2.1)) then
 bif (inb x.2.2.1 (List.length x.1)) then
 (Z6t (x.2.2.2.1,(getAt ((0:Int),(0:Int),(0:Int)) x.1 (toN x.2.2.1)).1,(15:Int),x.2.2.2.2.1.2.1,(0:Int),(getAt ((0:Int),(0:Int),(0:Int)) x.1 (toN x.2.2.1)).2.2)).bind fun r29 =>
 (Z5x (r29.1,(getAt ((0:Int),(0:Int),(0:Int)) x.1 (toN x.2.2.1)).1)).bind fun r30 =>
 (Z6v (r29,(getAt ((0:Int),(0:Int),(0:Int)) x.1 (toN x.2.2.1)).1,r30.2.2)).bind fun r31 =>
 some (.inl (x.1,x.2.1,(IntKind.wrap .i64 (x.2.2.1+(1:Int))),r31,x.2.2.2.2.1,x.2.2.2.2.2.1,x.2.2.2.2.2.2.1,x.2.2.2.2.2.2.2.1,x.2.2.2.2.2.2.2.2))
 else
 none
 else
 some (.inr (x.2.2.2.1,x.2.2.2.2.2.1,x.2.2.2.2.2.2.1,x.2.2.2.2.2.2.2.1,x.2.2.2.2.2.2.2.2))
def Zhs:Ctx:={ tb:=mkTb T2.tbl,fx:=[(221,[],Z11g),(220,[],Z11x),(53,[],Z120),(52,[],Z128),(132,[],Z11w),(55,[],Z11s),(51,[],Z129)],sum:=[],nt:=69,pin:=0,nr:=true,ys:=[] }
theorem Zcj:CSound Tryz.prog ⟨69,0,true⟩ (.loop (loopOf 8 Tryz.f187)) (Yay Znh Zlv (loop Zci)) :=
 Y8c (C:=Zhs) (ctxOK mixed tbl_ok rfl ⟨Z5a,Z68,Z6e,Z6u,Z66,Z5y,Z6w,trivial⟩ trivial) (SumOK.of trivial) Znh Zlv rfl rfl Zci (fun x=>by kernel_rfl)
abbrev Zr3:Shape:={ sl:=sl_42,bl:=[],ts:=ts_18,pin:=0 }
abbrev Zwe:Shape:={ sl:=sl_39,bl:=[],ts:=[y46],pin:=0 }
def Z5r (x:T69):Option (T63) :=
 bif (inb x.2.2.2.1 (List.length x.1.1.2.2.2.2.1)) then
 (Z59 ((getAt ((0:Int),(0:Int),([]:List T7)) x.1.1.2.2.2.2.1 (toN x.2.2.2.1)),x.2.1)).bind fun r23 =>
 bif (Bool.not r23.2.2) then
 some ((x.1.1.1,x.1.1.2.1,x.1.1.2.2.1,x.1.1.2.2.2.1,x.1.1.2.2.2.2.1,x.1.1.2.2.2.2.2.1,(3:Int)),x.1.2)
 else
 (Z67 (x.1,x.2.2.2.1,r23.1)).bind fun r24 =>
 (Z6d (x.2.1,(14:Int),x.2.2.2.1)).bind fun r25 =>
 (Z6t (r24,r25)).bind fun r26 =>
 (Z65 (r26,x.2.1)).bind fun r27 =>
 (loop Zci (r23.2.1,(((List.length r23.2.1):Nat):Int),(0:Int),r27,x.2.2,(0:Int),(0:Int),(0:Int),(0:Int),(0:Int))).bind fun r28 =>
 some r28.1
 else
 none
abbrev Z11p:=Spec.shp Zr3 Zwe Z5r
def Zhr:Ctx:={ tb:=mkTb T2.tbl,fx:=[(221,[],Z11g),(220,[],Z11x),(53,[],Z120),(52,[],Z128),(132,[],Z11w),(55,[],Z11s),(51,[],Z129)],sum:=[(0,8,Yay Znh Zlv (loop Zci))],nt:=69,pin:=0,nr:=true,ys:=[] }
theorem Z5s:Sound Tryz.prog 187 (Z11p) :=
 Sound.shp (C:=Zhr) (fn:=Tryz.f187) (by kernel_rfl) (c:=bodyOf Tryz.f187) (by kernel_rfl) (by decide) (ctxOK mixed tbl_ok rfl ⟨Z5a,Z68,Z6e,Z6u,Z66,Z5y,Z6w,trivial⟩ trivial) (SumOK.of ⟨(Yb0 (d:=.loop (loopOf 8 Tryz.f187)) (by kernel_rfl) Zcj),trivial⟩) (by kernel_rfl) Zr3 Zwe rfl (by decide) (by decide) rfl (by decide) rfl Z5r (fun x=>by kernel_rfl)
abbrev Zrk:Shape:={ sl:=sl_42,bl:=[],ts:=ts_18,pin:=0 }
abbrev Zwv:Shape:={ sl:=sl_39,bl:=[],ts:=[y46],pin:=0 }
def Z6p (x:T69):Option (T63) :=
 bif (x.2.2.1 == (5:Int)) then
 (Z6r (x.1,x.2.1,x.2.2)).bind fun r22 =>
 some r22
 else
 bif (x.2.2.1 == (6:Int)) then
 (Z5t (x.1,x.2.1,x.2.2)).bind fun r22 =>
 some r22
 else
 bif (x.2.2.1 == (7:Int)) then
 (Z5n (x.1,x.2.1,x.2.2)).bind fun r22 =>
 some r22
 else
 (Z5r (x.1,x.2.1,x.2.2)).bind fun r22 =>
 some r22
abbrev Z126:=Spec.shp Zrk Zwv Z6p
def Zih:Ctx:={ tb:=mkTb T2.tbl,fx:=[(184,[],Z127),(185,[],Z11q),(186,[],Z11n),(187,[],Z11p)],sum:=[],nt:=32,pin:=0,nr:=true,ys:=[] }
theorem Z6q:Sound Tryz.prog 136 (Z126) :=
 Sound.shp (C:=Zih) (fn:=Tryz.f136) (by kernel_rfl) (c:=bodyOf Tryz.f136) (by kernel_rfl) (by decide) (ctxOK mixed tbl_ok rfl ⟨Z6s,Z5u,Z5o,Z5s,trivial⟩ trivial) (SumOK.of trivial) (by kernel_rfl) Zrk Zwv rfl (by decide) (by decide) rfl (by decide) rfl Z6p (fun x=>by kernel_rfl)
abbrev Zqz:Shape:={ sl:=sl_42,bl:=[],ts:=ts_18,pin:=0 }
abbrev Zwa:Shape:={ sl:=sl_39,bl:=[],ts:=[y46],pin:=0 }
def Z5j (x:T69):Option (T63) :=
 bif ((((List.length x.1.1.2.1):Nat):Int) == (8:Int)) then
 some ((x.1.1.1,x.1.1.2.1,x.1.1.2.2.1,x.1.1.2.2.2.1,x.1.1.2.2.2.2.1,x.1.1.2.2.2.2.2.1,(4:Int)),x.1.2)
 else
 (Z6d (x.2.1,(1:Int),(((List.length x.1.1.2.1):Nat):Int))).bind fun r22 =>
 (Z6t (x.1,r22)).bind fun r23 =>
 (Z6t (r23,(((List.length x.1.1.2.1):Nat):Int),(0:Int),(0:Int),(0:Int),x.1.1.2.2.2.2.2.1)).bind fun r24 =>
 bif (fits ((List.length ([]:List T17))+(List.length r24.1.2.1))) then
 bif (fits ((List.length (([]:List T17)++r24.1.2.1))+(List.length ((x.2.2.2.1,(0:Int),(0:Int),false) :: ([]:List T17))))) then
 (Z6v (((r24.1.1,((([]:List T17)++r24.1.2.1)++((x.2.2.2.1,(0:Int),(0:Int),false) :: ([]:List T17))),r24.1.2.2),r24.2),(((List.length x.1.1.2.1):Nat):Int),(0:Int))).bind fun r25 =>
 (Z65 (r25,x.2.1)).bind fun r26 =>
 some r26
 else
 none
 else
 none
abbrev Z11l:=Spec.shp Zqz Zwa Z5j
def Zhm:Ctx:={ tb:=mkTb T2.tbl,fx:=[(53,[],Z120),(52,[],Z128),(51,[2000000],Z129),(132,[],Z11w)],sum:=[],nt:=51,pin:=0,nr:=true,ys:=[] }
theorem Z5k:Sound Tryz.prog 137 (Z11l) :=
 Sound.shp (C:=Zhm) (fn:=Tryz.f137) (by kernel_rfl) (c:=bodyOf Tryz.f137) (by kernel_rfl) (by decide) (ctxOK mixed tbl_ok rfl ⟨Z6e,Z6u,Z6w,Z66,trivial⟩ trivial) (SumOK.of trivial) (by kernel_rfl) Zqz Zwa rfl (by decide) (by decide) rfl (by decide) rfl Z5j (fun x=>by kernel_rfl)
abbrev Zr7:Shape:={ sl:=sl_42,bl:=[],ts:=ts_18,pin:=0 }
abbrev Zwi:Shape:={ sl:=sl_39,bl:=[],ts:=[y46],pin:=0 }
def Z5z (x:T69):Option (T63) :=
 bif (x.2.2.1 == (12:Int)) then
 (Z6v (x.1,x.2.1,x.2.2.2.1)).bind fun r22 =>
 some r22
 else
 bif (inb x.2.1 (List.length x.1.1.2.1)) then
 bif (getAt ((0:Int),(0:Int),(0:Int),false) x.1.1.2.1 (toN x.2.1)).2.2.2 then
 (Z6v (x.1,x.2.1,x.2.2.2.1)).bind fun r22 =>
 some r22
 else
 (Z65 (x.1,x.2.1)).bind fun r22 =>
 some r22
 else
 none
abbrev Z11t:=Spec.shp Zr7 Zwi Z5z
def Zhx:Ctx:={ tb:=mkTb T2.tbl,fx:=[(51,[],Z129),(132,[],Z11w)],sum:=[],nt:=27,pin:=0,nr:=true,ys:=[] }
theorem Z60:Sound Tryz.prog 138 (Z11t) :=
 Sound.shp (C:=Zhx) (fn:=Tryz.f138) (by kernel_rfl) (c:=bodyOf Tryz.f138) (by kernel_rfl) (by decide) (ctxOK mixed tbl_ok rfl ⟨Z6w,Z66,trivial⟩ trivial) (SumOK.of trivial) (by kernel_rfl) Zr7 Zwi rfl (by decide) (by decide) rfl (by decide) rfl Z5z (fun x=>by kernel_rfl)
abbrev Zqy:Shape:={ sl:=[(0,(.hole y46)),(1,(.hole y4))],bl:=[],ts:=[y46,y4],pin:=0 }
abbrev Zw9:Shape:={ sl:=sl_39,bl:=[],ts:=[y46],pin:=0 }
def Z5h (x:(T63 × (Int × Int))):Option (T63) :=
 (Z5x (x.1.1,x.2.1)).bind fun r20 =>
 bif (r20.1 == (0:Int)) then
 (Z65 (x.1,x.2.1)).bind fun r21 =>
 some r21
 else
 bif (decide (r20.1 ≤ (2:Int))) then
 (Z69 (x.1,x.2.1,r20)).bind fun r21 =>
 some r21
 else
 bif (r20.1 == (3:Int)) then
 (Z6l (x.1,x.2.1,r20)).bind fun r21 =>
 some r21
 else
 bif (r20.1 == (4:Int)) then
 (Z6h (x.1,x.2.1,x.2.2,r20)).bind fun r21 =>
 some r21
 else
 bif (decide (r20.1 ≤ (8:Int))) then
 (Z6p (x.1,x.2.1,r20)).bind fun r21 =>
 some r21
 else
 bif (r20.1 == (9:Int)) then
 (Z5j (x.1,x.2.1,r20)).bind fun r21 =>
 some r21
 else
 bif (decide (r20.1 ≤ (11:Int))) then
 (Z6d (x.2.1,(IntKind.wrap .i64 (r20.1+(6:Int))),r20.2.1)).bind fun r21 =>
 (Z6t (x.1,r21)).bind fun r22 =>
 (Z65 (r22,x.2.1)).bind fun r23 =>
 some r23
 else
 (Z5z (x.1,x.2.1,r20)).bind fun r21 =>
 some r21
abbrev Z11k:=Spec.shp Zqy Zw9 Z5h
def Zhl:Ctx:={ tb:=mkTb T2.tbl,fx:=[(55,[],Z11s),(132,[],Z11w),(133,[],Z11y),(134,[],Z124),(135,[],Z122),(136,[],Z126),(137,[],Z11l),(53,[],Z120),(52,[],Z128),(138,[],Z11t)],sum:=[],nt:=81,pin:=0,nr:=true,ys:=[] }
theorem Z5i:Sound Tryz.prog 79 (Z11k) :=
 Sound.shp (C:=Zhl) (fn:=Tryz.f79) (by kernel_rfl) (c:=bodyOf Tryz.f79) (by kernel_rfl) (by decide) (ctxOK mixed tbl_ok rfl ⟨Z5y,Z66,Z6a,Z6m,Z6i,Z6q,Z5k,Z6e,Z6u,Z60,trivial⟩ trivial) (SumOK.of trivial) (by kernel_rfl) Zqy Zw9 rfl (by decide) (by decide) rfl (by decide) rfl Z5h (fun x=>by kernel_rfl)
abbrev Zqx:Shape:={ sl:=[(0,(.hole y45)),(1,(.hole y4))],bl:=[],ts:=[y45,y4],pin:=0 }
abbrev Zw8:Shape:={ sl:=[(0,(.hole y45)),(1,(.hole y27))],bl:=[],ts:=[y45,y27],pin:=0 }
def Z5f (x:((T47 × T61) × (Int × Int))):Option T63 :=
 (Z5h ((x.1,([]:List T20)),x.2)).bind fun r19 =>
 (Z6n r19.1).bind fun r20 =>
 some (r20,r19.2)
abbrev Z11j:=Spec.shp Zqx Zw8 Z5f
def Zhk:Ctx:={ tb:=mkTb T2.tbl,fx:=[(79,[],Z11k),(54,[],Z125)],sum:=[],nt:=16,pin:=0,nr:=true,ys:=[] }
theorem Z5g:Sound Tryz.prog 25 (Z11j) :=
 Sound.shp (C:=Zhk) (fn:=Tryz.f25) (by kernel_rfl) (c:=bodyOf Tryz.f25) (by kernel_rfl) (by decide) (ctxOK mixed tbl_ok rfl ⟨Z5i,Z6o,trivial⟩ trivial) (SumOK.of trivial) (by kernel_rfl) Zqx Zw8 rfl (by decide) (by decide) rfl (by decide) rfl Z5f (fun x=>by kernel_rfl)
abbrev Zn0:Shape:={ sl:=sl_32,bl:=bl_18,ts:=ts_16,pin:=0 }
abbrev Zle:List (ETag × Shape):=[(.exit 0,{ sl:=[(1,(.ptr 0 [])),(2,(.ptr 1 [])),(3,(.sl 2))],bl:=bl_18,ts:=[y39,(.int .i64),(.int .i64),(.int .i64),(.slice y9)],pin:=0 })]
def Zbj (x:T55):Option (T55 ⊕ (T47 × Int × Int × Int × List (T12))) :=
 bif (decide (x.2.2.1 < x.2.1)) then
 bif (inb x.2.2.1 (List.length x.1)) then
 bif (sub3 (0:Int) (Min.min (((List.length (getAt (([]:List T0),false) x.1 (toN x.2.2.1)).1):Nat):Int) (6:Int)) (List.length (getAt (([]:List T0),false) x.1 (toN x.2.2.1)).1)) then
 bif (fits ((List.length x.2.2.2.2.2.2.2)+(List.length (((cut (getAt (([]:List T0),false) x.1 (toN x.2.2.1)).1 (toN (0:Int)) ((toN (Min.min (((List.length (getAt (([]:List T0),false) x.1 (toN x.2.2.1)).1):Nat):Int) (6:Int))) - (toN (0:Int)))),(getAt (([]:List T0),false) x.1 (toN x.2.2.1)).2) :: ([]:List T21))))) then
 some (.inl (x.1,x.2.1,(IntKind.wrap .i64 (x.2.2.1+(1:Int))),x.2.2.2.1,x.2.2.2.2.1,x.2.2.2.2.2.1,x.2.2.2.2.2.2.1,(x.2.2.2.2.2.2.2++(((cut (getAt (([]:List T0),false) x.1 (toN x.2.2.1)).1 (toN (0:Int)) ((toN (Min.min (((List.length (getAt (([]:List T0),false) x.1 (toN x.2.2.1)).1):Nat):Int) (6:Int))) - (toN (0:Int)))),(getAt (([]:List T0),false) x.1 (toN x.2.2.1)).2) :: ([]:List T21)))))
 else
 none
 else
 none
 else
 none
 else
 some (.inr (x.2.2.2.1,x.2.2.2.2.1,x.2.2.2.2.2.1,x.2.2.2.2.2.2.1,x.2.2.2.2.2.2.2))
def Zgd:Ctx:={ tb:=mkTb T2.tbl,fx:=[],sum:=[],nt:=68,pin:=0,nr:=true,ys:=[] }
theorem Zbk:CSound Tryz.prog ⟨68,0,true⟩ (.loop (loopOf 5 Tryz.f27)) (Yay Zn0 Zle (loop Zbj)) :=
 Y8c (C:=Zgd) (ctxOK mixed tbl_ok rfl trivial trivial) (SumOK.of trivial) Zn0 Zle rfl rfl Zbj (fun x=>by kernel_rfl)
abbrev Zmz:Shape:={ sl:=sl_33,bl:=bl_19,ts:=ts_17,pin:=0 }
abbrev Zld:List (ETag × Shape):=[(.exit 2,{ sl:=[(1,(.ptr 0 [])),(2,(.ptr 1 [])),(3,(.sl 2)),(6,(.sl 3))],bl:=bl_19,ts:=[y39,(.int .i64),(.int .i64),(.int .i64),(.slice y9),y10],pin:=0 })]
def Zbh (x:T59):Option (T59 ⊕ (T47 × Int × Int × Int × List (T12) × List (List (T7)))) :=
 bif (decide (x.2.2.1 < x.2.1)) then
 bif (inb x.2.2.1 (List.length x.1)) then
 bif (sub3 (0:Int) (Min.min (((List.length (getAt ([]:List T7) x.1 (toN x.2.2.1))):Nat):Int) (30:Int)) (List.length (getAt ([]:List T7) x.1 (toN x.2.2.1)))) then
 bif (fits ((List.length x.2.2.2.2.2.2.2.2)+(List.length ((cut (getAt ([]:List T7) x.1 (toN x.2.2.1)) (toN (0:Int)) ((toN (Min.min (((List.length (getAt ([]:List T7) x.1 (toN x.2.2.1))):Nat):Int) (30:Int))) - (toN (0:Int)))) :: ([]:List (List T7)))))) then
 some (.inl (x.1,x.2.1,(IntKind.wrap .i64 (x.2.2.1+(1:Int))),x.2.2.2.1,x.2.2.2.2.1,x.2.2.2.2.2.1,x.2.2.2.2.2.2.1,x.2.2.2.2.2.2.2.1,(x.2.2.2.2.2.2.2.2++((cut (getAt ([]:List T7) x.1 (toN x.2.2.1)) (toN (0:Int)) ((toN (Min.min (((List.length (getAt ([]:List T7) x.1 (toN x.2.2.1))):Nat):Int) (30:Int))) - (toN (0:Int)))) :: ([]:List (List T7))))))
 else
 none
 else
 none
 else
 none
 else
 some (.inr (x.2.2.2.1,x.2.2.2.2.1,x.2.2.2.2.2.1,x.2.2.2.2.2.2.1,x.2.2.2.2.2.2.2.1,x.2.2.2.2.2.2.2.2))
def Zgc:Ctx:={ tb:=mkTb T2.tbl,fx:=[],sum:=[(0,5,Yay Zn0 Zle (loop Zbj))],nt:=68,pin:=0,nr:=true,ys:=[] }
theorem Zbi:CSound Tryz.prog ⟨68,0,true⟩ (.loop (loopOf 12 Tryz.f27)) (Yay Zmz Zld (loop Zbh)) :=
 Y8c (C:=Zgc) (ctxOK mixed tbl_ok rfl trivial trivial) (SumOK.of ⟨(Yaz (by kernel_rfl)),trivial⟩) Zmz Zld rfl rfl Zbh (fun x=>by kernel_rfl)
abbrev Zq5:Shape:={ sl:=sl_6,bl:=[],ts:=[y39],pin:=0 }
abbrev Zvg:Shape:={ sl:=sl_6,bl:=[],ts:=[y39],pin:=0 }
def Z3u (x:(T47)):Option (T47) :=
 bif (sub3 (0:Int) (Min.min (((List.length x.1):Nat):Int) (6:Int)) (List.length x.1)) then
 bif (sub3 (0:Int) (Min.min (((List.length x.2.2.2.2.1):Nat):Int) (6:Int)) (List.length x.2.2.2.2.1)) then
 (loop Zbj ((cut x.2.2.2.2.1 (toN (0:Int)) ((toN (Min.min (((List.length x.2.2.2.2.1):Nat):Int) (6:Int))) - (toN (0:Int)))),(((List.length (cut x.2.2.2.2.1 (toN (0:Int)) ((toN (Min.min (((List.length x.2.2.2.2.1):Nat):Int) (6:Int))) - (toN (0:Int))))):Nat):Int),(0:Int),((cut x.1 (toN (0:Int)) ((toN (Min.min (((List.length x.1):Nat):Int) (6:Int))) - (toN (0:Int)))),x.2),(0:Int),(0:Int),(0:Int),([]:List T21))).bind fun r2 =>
 bif (sub3 (0:Int) (Min.min (((List.length r2.1.2.2.2.2.2):Nat):Int) (8:Int)) (List.length r2.1.2.2.2.2.2)) then
 (loop Zbh ((cut r2.1.2.2.2.2.2 (toN (0:Int)) ((toN (Min.min (((List.length r2.1.2.2.2.2.2):Nat):Int) (8:Int))) - (toN (0:Int)))),(((List.length (cut r2.1.2.2.2.2.2 (toN (0:Int)) ((toN (Min.min (((List.length r2.1.2.2.2.2.2):Nat):Int) (8:Int))) - (toN (0:Int))))):Nat):Int),(0:Int),r2.1,r2.2.1,r2.2.2.1,r2.2.2.2.1,r2.2.2.2.2,([]:List (List T7)))).bind fun r3 =>
 some (r3.1.1,r3.1.2.1,r3.1.2.2.1,r3.1.2.2.2.1,r3.2.2.2.2.1,r3.2.2.2.2.2)
 else
 none
 else
 none
 else
 none
abbrev Z10r:=Spec.shp Zq5 Zvg Z3u
def Zgb:Ctx:={ tb:=mkTb T2.tbl,fx:=[],sum:=[(0,5,Yay Zn0 Zle (loop Zbj)),(0,12,Yay Zmz Zld (loop Zbh))],nt:=68,pin:=0,nr:=true,ys:=[] }
theorem Z3v:Sound Tryz.prog 27 (Z10r) :=
 Sound.shp (C:=Zgb) (fn:=Tryz.f27) (by kernel_rfl) (c:=bodyOf Tryz.f27) (by kernel_rfl) (by decide) (ctxOK mixed tbl_ok rfl trivial trivial) (SumOK.of ⟨(Yb0 (d:=.loop (loopOf 5 Tryz.f27)) (by kernel_rfl) Zbk),(Yb0 (d:=.loop (loopOf 12 Tryz.f27)) (by kernel_rfl) Zbi),trivial⟩) (by kernel_rfl) Zq5 Zvg rfl (by decide) (by decide) rfl (by decide) rfl Z3u (fun x=>by kernel_rfl)
abbrev Zsj:Shape:={ sl:=[(0,(.hole y39)),(1,(.hole (.int .i64)))],bl:=[],ts:=[y39,(.int .i64)],pin:=0 }
abbrev Zxu:Shape:={ sl:=sl_2,bl:=[],ts:=ts_2,pin:=0 }
def Z8n (x:(T47 × Int)):Option (Int) :=
 (Z73 x.1).bind fun r4 =>
 bif (Bool.not r4) then
 some (1:Int)
 else
 bif (decide (x.2 < (1:Int))) then
 some (2:Int)
 else
 bif (decide (x.2 > (400:Int))) then
 some (2:Int)
 else
 some (0:Int)
abbrev Z134:=Spec.shp Zsj Zxu Z8n
def Zjn:Ctx:={ tb:=mkTb T2.tbl,fx:=[(38,[],Z12d)],sum:=[],nt:=16,pin:=0,nr:=true,ys:=[] }
theorem Z8o:Sound Tryz.prog 80 (Z134) :=
 Sound.shp (C:=Zjn) (fn:=Tryz.f80) (by kernel_rfl) (c:=bodyOf Tryz.f80) (by kernel_rfl) (by decide) (ctxOK mixed tbl_ok rfl ⟨Z74,trivial⟩ trivial) (SumOK.of trivial) (by kernel_rfl) Zsj Zxu rfl (by decide) (by decide) rfl (by decide) rfl Z8n (fun x=>by kernel_rfl)
abbrev Zsn:Shape:={ sl:=[(0,(.hole y27))],bl:=[],ts:=[y27],pin:=0 }
abbrev Zxy:Shape:={ sl:=[(0,(.sl 0))],bl:=[.row y24],ts:=[y27],pin:=0 }
def Z8v (x:(List (T20))):Option (List (T20)) :=
 bif (@Nat.beq (List.length x) (0:Nat)) then
 amb (
 some ([]:List T20)) (
 bif (fits ((List.length ([]:List T20))+(List.length x))) then
 some (([]:List T20)++x)
 else
 none)
 else
 bif (fits ((List.length ([]:List T20))+(List.length x))) then
 some (([]:List T20)++x)
 else
 none
abbrev Z138:=Spec.shp Zsn Zxy Z8v
def Zjs:Ctx:={ tb:=mkTb T2.tbl,fx:=[],sum:=[],nt:=8,pin:=0,nr:=true,ys:=[] }
theorem Z8w:Sound Tryz.prog 139 (Z138) :=
 Sound.shp (C:=Zjs) (fn:=Tryz.f139) (by kernel_rfl) (c:=bodyOf Tryz.f139) (by kernel_rfl) (by decide) (ctxOK mixed tbl_ok rfl trivial trivial) (SumOK.of trivial) (by kernel_rfl) Zsn Zxy rfl (by decide) (by decide) rfl (by decide) rfl Z8v (fun x=>by kernel_rfl)
abbrev Zsk:Shape:={ sl:=sl_25,bl:=[.var (.hole (.one y0))],ts:=[(.int .i64),(.one y0)],pin:=0 }
abbrev Zxv:Shape:={ sl:=sl_2,bl:=[.var (.hole (.one y0))],ts:=[(.int .i64),(.one y0)],pin:=1 }
def Z8p (x:T3):Option T3 :=
 bif ((((List.length x.2):Nat):Int) == (0:Int)) then
 some ((0:Int),x.2)
 else
 bif (inb (0:Int) (List.length x.2)) then
 bif (x.1 != (0:Int)) then
 bif (sub3 (1:Int) (((List.length x.2):Nat):Int) (List.length x.2)) then
 bif (decide ((Int.tmod (getAt (0:Int) x.2 (toN (0:Int))) x.1) < (0:Int))) then
 some ((IntKind.wrap .i64 ((Int.tmod (getAt (0:Int) x.2 (toN (0:Int))) x.1)+x.1)),(cut x.2 (toN (1:Int)) ((toN (((List.length x.2):Nat):Int)) - (toN (1:Int)))))
 else
 some ((Int.tmod (getAt (0:Int) x.2 (toN (0:Int))) x.1),(cut x.2 (toN (1:Int)) ((toN (((List.length x.2):Nat):Int)) - (toN (1:Int)))))
 else
 none
 else
 none
 else
 none
abbrev Z135:=Spec.shp Zsk Zxv Z8p
def Zjo:Ctx:={ tb:=mkTb T2.tbl,fx:=[],sum:=[],nt:=34,pin:=1,nr:=true,ys:=[] }
theorem Z8q:Sound Tryz.prog 81 (Z135) :=
 Sound.shp (C:=Zjo) (fn:=Tryz.f81) (by kernel_rfl) (c:=bodyOf Tryz.f81) (by kernel_rfl) (by decide) (ctxOK mixed tbl_ok rfl trivial trivial) (SumOK.of trivial) (by kernel_rfl) Zsk Zxv rfl (by decide) (by decide) rfl (by decide) rfl Z8p (fun x=>by kernel_rfl)
abbrev Znx:Shape:={ sl:=[(1,(.fn 81 (.cons (.ptr 0 []) .nil) .nil)),(6,(.ptr 1 [])),(8,(.ptr 2 [])),(11,(.ptr 3 [])),(12,(.sl 4)),(27,(.hole (.int .i64))),(28,(.hole (.int .i64)))],bl:=bl_31,ts:=[(.int .i64),(.int .i64),(.one y0),(.int .i64),y45,(.int .i64),y0,y27,(.slice y4)],pin:=1 }
abbrev Zmb:List (ETag × Shape):=[(.exit 0,{ sl:=[(6,(.ptr 1 [])),(8,(.ptr 2 [])),(11,(.ptr 3 [])),(12,(.sl 4))],bl:=bl_31,ts:=[(.one y0),(.int .i64),y45,(.int .i64),y0,y27,(.slice y4)],pin:=1 })]
def Zde (x:(Int × Int × List Int × Int × (T47 × T61) × Int × List Int × List (T20) × List (Int × Int))):Option ((Int × Int × List Int × Int × (T47 × T61) × Int × List Int × List (T20) × List (Int × Int)) ⊕ (List Int × Int × (T47 × T61) × Int × List Int × List (T20) × List (Int × Int))) :=
 bif (decide (x.2.1 < x.1)) then
 bif (x.2.2.2.2.1.2.2.2.2.2.2 != (0:Int)) then
 some (.inr (x.2.2.1,x.2.2.2.1,x.2.2.2.2.1,x.2.2.2.2.2.1,x.2.2.2.2.2.2.1,x.2.2.2.2.2.2.2.1,x.2.2.2.2.2.2.2.2))
 else
 (Z16 x.2.2.2.2.1).bind fun r8 =>
 (Z8p ((((List.length r8):Nat):Int),x.2.2.1)).bind fun r9 =>
 bif (inb r9.1 (List.length r8)) then
 (Z1a (x.2.2.2.2.1,(getAt ((0:Int),(0:Int)) r8 (toN r9.1)))).bind fun r10 =>
 bif (fits ((List.length x.2.2.2.2.2.2.2.1)+(List.length r10.2.1))) then
 bif (fits ((List.length x.2.2.2.2.2.2.2.2)+(List.length ((getAt ((0:Int),(0:Int)) r8 (toN r9.1)) :: ([]:List (Int × Int)))))) then
 bif (fits ((List.length x.2.2.2.2.2.2.1)+(List.length ((((List.length r8):Nat):Int) :: ([]:List Int))))) then
 some (.inl (x.1,(IntKind.wrap .i64 (x.2.1+(1:Int))),r9.2,x.2.2.2.1,r10.1,x.2.2.2.2.2.1,(x.2.2.2.2.2.2.1++((((List.length r8):Nat):Int) :: ([]:List Int))),(x.2.2.2.2.2.2.2.1++r10.2.1),(x.2.2.2.2.2.2.2.2++((getAt ((0:Int),(0:Int)) r8 (toN r9.1)) :: ([]:List (Int × Int))))))
 else
 none
 else
 none
 else
 none
 else
 none
 else
 some (.inr (x.2.2.1,x.2.2.2.1,x.2.2.2.2.1,x.2.2.2.2.2.1,x.2.2.2.2.2.2.1,x.2.2.2.2.2.2.2.1,x.2.2.2.2.2.2.2.2))
def Zjq:Ctx:={ tb:=mkTb T2.tbl,fx:=[(14,[],Zzh),(139,[],Z138),(22,[],Zzg),(81,[],Z135),(23,[],Zzi)],sum:=[],nt:=76,pin:=1,nr:=true,ys:=[] }
theorem Zdf:CSound Tryz.prog ⟨76,1,true⟩ (.loop (loopOf 6 Tryz.f82)) (Yay Znx Zmb (loop Zde)) :=
 Y8c (C:=Zjq) (ctxOK mixed tbl_ok rfl ⟨Z19,Z8w,Z17,Z8q,Z1b,trivial⟩ trivial) (SumOK.of trivial) Znx Zmb rfl rfl Zde (fun x=>by kernel_rfl)
abbrev Zsl:Shape:={ sl:=[(0,(.hole y39)),(1,(.fn 81 (.cons (.ptr 0 []) .nil) .nil)),(2,(.hole (.int .i64)))],bl:=[.var (.hole (.one y0))],ts:=[y39,(.int .i64),(.one y0)],pin:=0 }
abbrev Zxw:Shape:={ sl:=[(0,(.hole y38)),(1,(.hole y0))],bl:=[.var (.hole (.one y0))],ts:=[y38,y0,(.one y0)],pin:=1 }
def Z8r (x:(T47 × Int × List Int)):Option ((Int × T36) × List Int × List Int) :=
 (Z18 x.1).bind fun r5 =>
 (Z8v r5.2.1).bind fun r6 =>
 (loop Zde (x.2.1,(0:Int),x.2.2,(0:Int),r5.1,(0:Int),([]:List Int),r6,([]:List (Int × Int)))).bind fun r7 =>
 bif (r7.2.2.1.2.2.2.2.2.2 == (0:Int)) then
 some (((5:Int),r7.2.2.2.2.2.1,r7.2.2.2.2.2.2),r7.2.2.2.2.1,r7.1)
 else
 some ((r7.2.2.1.2.2.2.2.2.2,r7.2.2.2.2.2.1,r7.2.2.2.2.2.2),r7.2.2.2.2.1,r7.1)
abbrev Z136:=Spec.shp Zsl Zxw Z8r
def Zjp:Ctx:={ tb:=mkTb T2.tbl,fx:=[(14,[],Zzh),(139,[],Z138),(22,[],Zzg),(81,[],Z135),(23,[],Zzi)],sum:=[(0,6,Yay Znx Zmb (loop Zde))],nt:=76,pin:=1,nr:=true,ys:=[] }
theorem Z8s:Sound Tryz.prog 82 (Z136) :=
 Sound.shp (C:=Zjp) (fn:=Tryz.f82) (by kernel_rfl) (c:=bodyOf Tryz.f82) (by kernel_rfl) (by decide) (ctxOK mixed tbl_ok rfl ⟨Z19,Z8w,Z17,Z8q,Z1b,trivial⟩ trivial) (SumOK.of ⟨(Yb0 (d:=.loop (loopOf 6 Tryz.f82)) (by kernel_rfl) Zdf),trivial⟩) (by kernel_rfl) Zsl Zxw rfl (by decide) (by decide) rfl (by decide) rfl Z8r (fun x=>by kernel_rfl)
abbrev Zsi:Shape:={ sl:=sl_43,bl:=[],ts:=[y39,y0,(.int .i64)],pin:=0 }
abbrev Zxt:Shape:={ sl:=[(0,(.hole y38)),(1,(.hole (.int .i64)))],bl:=[],ts:=[y38,(.int .i64)],pin:=0 }
def Z8l (x:T51):Option ((Int × T36) × Int) :=
 (Z8n (x.1,x.2.2)).bind fun r3 =>
 bif (r3 != (0:Int)) then
 some (((0:Int),([]:List T20),([]:List (Int × Int))),r3)
 else
 (Z8r (x.1,x.2.2,x.2.1)).bind fun r4 =>
 some (r4.1,(0:Int))
abbrev Z133:=Spec.shp Zsi Zxt Z8l
def Zjm:Ctx:={ tb:=mkTb T2.tbl,fx:=[(80,[],Z134),(82,[81],Z136)],sum:=[],nt:=31,pin:=0,nr:=true,ys:=[] }
theorem Z8m:Sound Tryz.prog 28 (Z133) :=
 Sound.shp (C:=Zjm) (fn:=Tryz.f28) (by kernel_rfl) (c:=bodyOf Tryz.f28) (by kernel_rfl) (by decide) (ctxOK mixed tbl_ok rfl ⟨Z8o,Z8s,trivial⟩ trivial) (SumOK.of trivial) (by kernel_rfl) Zsi Zxt rfl (by decide) (by decide) rfl (by decide) rfl Z8l (fun x=>by kernel_rfl)
abbrev Zq6:Shape:={ sl:=[],bl:=[],ts:=[],pin:=0 }
abbrev Zvh:Shape:={ sl:=sl_6,bl:=[],ts:=[y39],pin:=0 }
def Z3w (x:Unit):Option (T47) :=
 some (((0:Int) :: ([]:List Int)),(0:Int),(0:Int),(0:Int),([]:List T21),((((9:Int),(1:Int),(0:Int)) :: (((2:Int),(0:Int),(0:Int)) :: ([]:List T7))) :: ((((1:Int),(0:Int),(0:Int)) :: ([]:List T7)) :: ([]:List (List T7)))))
abbrev Z10s:=Spec.shp Zq6 Zvh Z3w
def Zge:Ctx:={ tb:=mkTb T2.tbl,fx:=[],sum:=[],nt:=9,pin:=0,nr:=true,ys:=[] }
theorem Z3x:Sound Tryz.prog 83 (Z10s) :=
 Sound.shp (C:=Zge) (fn:=Tryz.f83) (by kernel_rfl) (c:=bodyOf Tryz.f83) (by kernel_rfl) (by decide) (ctxOK mixed tbl_ok rfl trivial trivial) (SumOK.of trivial) (by kernel_rfl) Zq6 Zvh rfl (by decide) (by decide) rfl (by decide) rfl Z3w (fun x=>by kernel_rfl)
abbrev Zq4:Shape:={ sl:=[],bl:=[],ts:=[],pin:=0 }
abbrev Zvf:Shape:={ sl:=sl_1,bl:=[],ts:=ts_1,pin:=0 }
def Z3s (x:Unit):Option (Bool) :=
 (Z3w ()).bind fun r6 =>
 (Z8l (r6,([]:List Int),(9:Int))).bind fun r7 =>
 bif (r7.2 == (0:Int)) then
 bif (r7.1.1 == (1:Int)) then
 bif ((((List.length r7.1.2.1):Nat):Int) == (7:Int)) then
 bif ((((List.length r7.1.2.2):Nat):Int) == (3:Int)) then
 bif (inb (2:Int) (List.length r7.1.2.2)) then
 some ((getAt ((0:Int),(0:Int)) r7.1.2.2 (toN (2:Int))).1 == (1:Int))
 else
 none
 else
 some false
 else
 some false
 else
 some false
 else
 some false
abbrev Z10q:=Spec.shp Zq4 Zvf Z3s
def Zga:Ctx:={ tb:=mkTb T2.tbl,fx:=[(83,[],Z10s),(28,[],Z133)],sum:=[],nt:=35,pin:=0,nr:=true,ys:=[] }
theorem Z3t:Sound Tryz.prog 29 (Z10q) :=
 Sound.shp (C:=Zga) (fn:=Tryz.f29) (by kernel_rfl) (c:=bodyOf Tryz.f29) (by kernel_rfl) (by decide) (ctxOK mixed tbl_ok rfl ⟨Z3x,Z8m,trivial⟩ trivial) (SumOK.of trivial) (by kernel_rfl) Zq4 Zvf rfl (by decide) (by decide) rfl (by decide) rfl Z3s (fun x=>by kernel_rfl)
abbrev Zn1:Shape:={ sl:=[(0,(.hole y0)),(1,(.hole y0)),(12,(.hole (.int .i64))),(13,(.hole (.int .i64)))],bl:=[],ts:=[y0,y0,(.int .i64),(.int .i64)],pin:=0 }
abbrev Zlf:List (ETag × Shape):=[(.ret,{ sl:=sl_35,bl:=[],ts:=ts_1,pin:=0 }),(.exit 0,{ sl:=[],bl:=[],ts:=[],pin:=0 })]
def Zbl (x:T10):Option (T10 ⊕ ((Bool) ⊕ Unit)) :=
 bif (decide (x.2.2.2 < x.2.2.1)) then
 bif (inb x.2.2.2 (List.length x.1)) then
 bif (inb x.2.2.2 (List.length x.2.1)) then
 bif ((getAt (0:Int) x.1 (toN x.2.2.2)) != (getAt (0:Int) x.2.1 (toN x.2.2.2))) then
 some (.inr (.inl false))
 else
 some (.inl (x.1,x.2.1,x.2.2.1,(IntKind.wrap .i64 (x.2.2.2+(1:Int)))))
 else
 none
 else
 none
 else
 some (.inr (.inr ()))
def Zgg:Ctx:={ tb:=mkTb T2.tbl,fx:=[],sum:=[],nt:=26,pin:=0,nr:=true,ys:=[] }
theorem Zbm:CSound Tryz.prog ⟨26,0,true⟩ (.loop (loopOf 5 Tryz.f33)) (Yay Zn1 Zlf (loop Zbl)) :=
 Y8c (C:=Zgg) (ctxOK mixed tbl_ok rfl trivial trivial) (SumOK.of trivial) Zn1 Zlf rfl rfl Zbl (fun x=>by kernel_rfl)
abbrev Zq7:Shape:={ sl:=[(0,(.hole y0)),(1,(.hole y0))],bl:=[],ts:=[y0,y0],pin:=0 }
abbrev Zvi:Shape:={ sl:=sl_1,bl:=[],ts:=ts_1,pin:=0 }
def Z3y (x:(List Int × List Int)):Option (Bool) :=
 bif ((((List.length x.1):Nat):Int) != (((List.length x.2):Nat):Int)) then
 some false
 else
 (loop Zbl (x.1,x.2,(((List.length x.1):Nat):Int),(0:Int))).bind fun r9 =>
 match r9 with
 | .inl y10 =>
 some y10
 | .inr y10 =>
 some true
abbrev Z10t:=Spec.shp Zq7 Zvi Z3y
def Zgf:Ctx:={ tb:=mkTb T2.tbl,fx:=[],sum:=[(0,5,Yay Zn1 Zlf (loop Zbl))],nt:=26,pin:=0,nr:=true,ys:=[] }
theorem Z3z:Sound Tryz.prog 33 (Z10t) :=
 Sound.shp (C:=Zgf) (fn:=Tryz.f33) (by kernel_rfl) (c:=bodyOf Tryz.f33) (by kernel_rfl) (by decide) (ctxOK mixed tbl_ok rfl trivial trivial) (SumOK.of ⟨(Yb0 (d:=.loop (loopOf 5 Tryz.f33)) (by kernel_rfl) Zbm),trivial⟩) (by kernel_rfl) Zq7 Zvi rfl (by decide) (by decide) rfl (by decide) rfl Z3y (fun x=>by kernel_rfl)
abbrev Znw:Shape:={ sl:=[(6,(.ptr 0 [])),(9,(.sl 1)),(27,(.hole (.slice y4))),(28,(.hole (.int .i64))),(29,(.hole (.int .i64)))],bl:=[.var (.hole y45),.row (.int .i64)],ts:=[(.slice y4),(.int .i64),(.int .i64),y45,y0],pin:=0 }
abbrev Zma:List (ETag × Shape):=[(.ret,{ sl:=[(4,.nl),(5,(.hole (.int .i64)))],bl:=[],ts:=ts_2,pin:=0 }),(.exit 1,{ sl:=[(9,(.sl 0))],bl:=bl_14,ts:=[y0],pin:=0 })]
def Zdc (x:T66):Option (T66 ⊕ ((Int) ⊕ (List Int))) :=
 bif (decide (x.2.2.1 < x.2.1)) then
 bif (inb x.2.2.1 (List.length x.1)) then
 (Z16 x.2.2.2.1).bind fun r5 =>
 (Za7 (r5,(getAt ((0:Int),(0:Int)) x.1 (toN x.2.2.1)))).bind fun r6 =>
 bif (decide (r6 < (0:Int))) then
 some (.inr (.inl (4:Int)))
 else
 bif (fits ((List.length x.2.2.2.2)+(List.length (r6 :: ([]:List Int))))) then
 (Z1a (x.2.2.2.1,(getAt ((0:Int),(0:Int)) x.1 (toN x.2.2.1)))).bind fun r7 =>
 some (.inl (x.1,x.2.1,(IntKind.wrap .i64 (x.2.2.1+(1:Int))),r7.1,(x.2.2.2.2++(r6 :: ([]:List Int)))))
 else
 none
 else
 none
 else
 some (.inr (.inr x.2.2.2.2))
def Zjl:Ctx:={ tb:=mkTb T2.tbl,fx:=[(14,[],Zzh),(22,[],Zzg),(84,[],Z13w),(23,[],Zzi)],sum:=[],nt:=52,pin:=0,nr:=true,ys:=[] }
theorem Zdd:CSound Tryz.prog ⟨52,0,true⟩ (.loop (loopOf 9 Tryz.f34)) (Yay Znw Zma (loop Zdc)) :=
 Y8c (C:=Zjl) (ctxOK mixed tbl_ok rfl ⟨Z19,Z17,Za8,Z1b,trivial⟩ trivial) (SumOK.of trivial) Znw Zma rfl rfl Zdc (fun x=>by kernel_rfl)
abbrev Zsh:Shape:={ sl:=[(0,(.hole y39)),(1,(.hole (.slice y4)))],bl:=[],ts:=[y39,(.slice y4)],pin:=0 }
abbrev Zxs:Shape:={ sl:=sl_16,bl:=[],ts:=[y0,(.int .i64)],pin:=0 }
def Z8j (x:(T47 × List (Int × Int))):Option T2 :=
 (Z18 x.1).bind fun r3 =>
 bif (r3.2.2 != (0:Int)) then
 some (([]:List Int),r3.2.2)
 else
 bif (decide ((((List.length x.2):Nat):Int) > (400:Int))) then
 some (([]:List Int),(2:Int))
 else
 (loop Zdc (x.2,(((List.length x.2):Nat):Int),(0:Int),r3.1,([]:List Int))).bind fun r4 =>
 match r4 with
 | .inl y5 =>
 some (([]:List Int),y5)
 | .inr y5 =>
 some (y5,(0:Int))
abbrev Z132:=Spec.shp Zsh Zxs Z8j
def Zjk:Ctx:={ tb:=mkTb T2.tbl,fx:=[(14,[],Zzh),(22,[],Zzg),(84,[],Z13w),(23,[],Zzi)],sum:=[(0,9,Yay Znw Zma (loop Zdc))],nt:=52,pin:=0,nr:=true,ys:=[] }
theorem Z8k:Sound Tryz.prog 34 (Z132) :=
 Sound.shp (C:=Zjk) (fn:=Tryz.f34) (by kernel_rfl) (c:=bodyOf Tryz.f34) (by kernel_rfl) (by decide) (ctxOK mixed tbl_ok rfl ⟨Z19,Z17,Za8,Z1b,trivial⟩ trivial) (SumOK.of ⟨(Yb0 (d:=.loop (loopOf 9 Tryz.f34)) (by kernel_rfl) Zdd),trivial⟩) (by kernel_rfl) Zsh Zxs rfl (by decide) (by decide) rfl (by decide) rfl Z8j (fun x=>by kernel_rfl)
abbrev Znr:Shape:={ sl:=[(3,(.ptr 0 [])),(7,(.hole (.slice y4))),(8,(.hole (.int .i64))),(9,(.hole (.int .i64)))],bl:=[.var (.hole y4)],ts:=[(.slice y4),(.int .i64),(.int .i64),y4],pin:=0 }
abbrev Zm5:List (ETag × Shape):=[(.ret,{ sl:=sl_3,bl:=[],ts:=ts_2,pin:=0 }),(.exit 0,{ sl:=[],bl:=[],ts:=[],pin:=0 })]
def Zd2 (x:T11):Option (T11 ⊕ ((Int) ⊕ Unit)) :=
 bif (decide (x.2.2.1 < x.2.1)) then
 bif (inb x.2.2.1 (List.length x.1)) then
 bif (((getAt ((0:Int),(0:Int)) x.1 (toN x.2.2.1)).1 == x.2.2.2.1) && ((getAt ((0:Int),(0:Int)) x.1 (toN x.2.2.1)).2 == x.2.2.2.2)) then
 some (.inr (.inl x.2.2.1))
 else
 some (.inl (x.1,x.2.1,(IntKind.wrap .i64 (x.2.2.1+(1:Int))),x.2.2.2))
 else
 none
 else
 some (.inr (.inr ()))
def Zip:Ctx:={ tb:=mkTb T2.tbl,fx:=[],sum:=[],nt:=19,pin:=0,nr:=true,ys:=[] }
theorem Zd3:CSound Tryz.prog ⟨19,0,true⟩ (.loop (loopOf 3 Tryz.f85)) (Yay Znr Zm5 (loop Zd2)) :=
 Y8c (C:=Zip) (ctxOK mixed tbl_ok rfl trivial trivial) (SumOK.of trivial) Znr Zm5 rfl rfl Zd2 (fun x=>by kernel_rfl)
abbrev Zrq:Shape:={ sl:=sl_24,bl:=[],ts:=[(.slice y4),y4],pin:=0 }
abbrev Zx1:Shape:={ sl:=sl_2,bl:=[],ts:=ts_2,pin:=0 }
def Z71 (x:(List (Int × Int) × (Int × Int))):Option (Int) :=
 (loop Zd2 (x.1,(((List.length x.1):Nat):Int),(0:Int),x.2)).bind fun r9 =>
 match r9 with
 | .inl y10 =>
 some y10
 | .inr y10 =>
 some (Int.negSucc 0)
abbrev Z12c:=Spec.shp Zrq Zx1 Z71
def Zio:Ctx:={ tb:=mkTb T2.tbl,fx:=[],sum:=[(0,3,Yay Znr Zm5 (loop Zd2))],nt:=19,pin:=0,nr:=true,ys:=[] }
theorem Z72:Sound Tryz.prog 85 (Z12c) :=
 Sound.shp (C:=Zio) (fn:=Tryz.f85) (by kernel_rfl) (c:=bodyOf Tryz.f85) (by kernel_rfl) (by decide) (ctxOK mixed tbl_ok rfl trivial trivial) (SumOK.of ⟨(Yb0 (d:=.loop (loopOf 3 Tryz.f85)) (by kernel_rfl) Zd3),trivial⟩) (by kernel_rfl) Zrq Zx1 rfl (by decide) (by decide) rfl (by decide) rfl Z71 (fun x=>by kernel_rfl)
abbrev Znq:Shape:={ sl:=[(6,(.ptr 0 [])),(8,(.sl 1)),(20,(.hole (.slice y4))),(21,(.hole (.int .i64))),(22,(.hole (.int .i64)))],bl:=[.var (.hole y45),.row (.int .i64)],ts:=[(.slice y4),(.int .i64),(.int .i64),y45,y0],pin:=0 }
abbrev Zm4:List (ETag × Shape):=[(.ret,{ sl:=[(4,.nl),(5,(.hole .bool))],bl:=[],ts:=ts_1,pin:=0 }),(.exit 0,{ sl:=[(8,(.sl 0))],bl:=bl_14,ts:=[y0],pin:=0 })]
def Zd0 (x:T66):Option (T66 ⊕ ((Bool) ⊕ (List Int))) :=
 bif (decide (x.2.2.1 < x.2.1)) then
 bif (inb x.2.2.1 (List.length x.1)) then
 (Z5b x.2.2.2.1).bind fun r7 =>
 (Z71 (r7,(getAt ((0:Int),(0:Int)) x.1 (toN x.2.2.1)))).bind fun r8 =>
 bif (decide (r8 < (0:Int))) then
 some (.inr (.inl false))
 else
 (Z5f (x.2.2.2.1,(getAt ((0:Int),(0:Int)) x.1 (toN x.2.2.1)))).bind fun r9 =>
 bif (fits ((List.length x.2.2.2.2)+(List.length (r8 :: ([]:List Int))))) then
 some (.inl (x.1,x.2.1,(IntKind.wrap .i64 (x.2.2.1+(1:Int))),r9.1,(x.2.2.2.2++(r8 :: ([]:List Int)))))
 else
 none
 else
 none
 else
 some (.inr (.inr x.2.2.2.2))
def Zin:Ctx:={ tb:=mkTb T2.tbl,fx:=[(18,[],Z11i),(20,[],Z11h),(85,[],Z12c),(25,[],Z11j)],sum:=[],nt:=45,pin:=0,nr:=true,ys:=[] }
theorem Zd1:CSound Tryz.prog ⟨45,0,true⟩ (.loop (loopOf 5 Tryz.f35)) (Yay Znq Zm4 (loop Zd0)) :=
 Y8c (C:=Zin) (ctxOK mixed tbl_ok rfl ⟨Z5e,Z5c,Z72,Z5g,trivial⟩ trivial) (SumOK.of trivial) Znq Zm4 rfl rfl Zd0 (fun x=>by kernel_rfl)
abbrev Zrp:Shape:={ sl:=[(0,(.hole y39)),(1,(.hole (.slice y4)))],bl:=[],ts:=[y39,(.slice y4)],pin:=0 }
abbrev Zx0:Shape:={ sl:=[(0,(.hole y0)),(1,(.hole .bool))],bl:=[],ts:=[y0,.bool],pin:=0 }
def Z6z (x:(T47 × List (Int × Int))):Option (List Int × Bool) :=
 (Z5d x.1).bind fun r5 =>
 (loop Zd0 (x.2,(((List.length x.2):Nat):Int),(0:Int),r5.1,([]:List Int))).bind fun r6 =>
 match r6 with
 | .inl y7 =>
 some (([]:List Int),y7)
 | .inr y7 =>
 some (y7,true)
abbrev Z12b:=Spec.shp Zrp Zx0 Z6z
def Zim:Ctx:={ tb:=mkTb T2.tbl,fx:=[(18,[],Z11i),(20,[],Z11h),(85,[],Z12c),(25,[],Z11j)],sum:=[(0,5,Yay Znq Zm4 (loop Zd0))],nt:=45,pin:=0,nr:=true,ys:=[] }
theorem Z70:Sound Tryz.prog 35 (Z12b) :=
 Sound.shp (C:=Zim) (fn:=Tryz.f35) (by kernel_rfl) (c:=bodyOf Tryz.f35) (by kernel_rfl) (by decide) (ctxOK mixed tbl_ok rfl ⟨Z5e,Z5c,Z72,Z5g,trivial⟩ trivial) (SumOK.of ⟨(Yb0 (d:=.loop (loopOf 5 Tryz.f35)) (by kernel_rfl) Zd1),trivial⟩) (by kernel_rfl) Zrp Zx0 rfl (by decide) (by decide) rfl (by decide) rfl Z6z (fun x=>by kernel_rfl)
def F_plaitlaw13_RunReplays (x:(T47 × List (Int × Int))):Option (Bool) :=
 (Z3u x.1).bind fun r1 =>
 bif (Bool.not (decide ((((List.length x.2):Nat):Int) > (400:Int)))) then
 bif (sub3 (0:Int) (Min.min (((List.length x.2):Nat):Int) (100:Int)) (List.length x.2)) then
 (Z8j (r1,(cut x.2 (toN (0:Int)) ((toN (Min.min (((List.length x.2):Nat):Int) (100:Int))) - (toN (0:Int)))))).bind fun r2 =>
 (Z47 r1).bind fun r3 =>
 bif (Bool.not r3) then
 (Z3s ()).bind fun r4 =>
 bif r4 then
 bif (r2.2 == (1:Int)) then
 some ((((List.length r2.1):Nat):Int) == (0:Int))
 else
 some false
 else
 some false
 else
 bif (decide ((((List.length x.2):Nat):Int) > (400:Int))) then
 (Z3s ()).bind fun r4 =>
 bif r4 then
 bif (r2.2 == (2:Int)) then
 some ((((List.length r2.1):Nat):Int) == (0:Int))
 else
 some false
 else
 some false
 else
 (Z6z (r1,(cut x.2 (toN (0:Int)) ((toN (Min.min (((List.length x.2):Nat):Int) (100:Int))) - (toN (0:Int)))))).bind fun r4 =>
 bif (Bool.not r4.2) then
 (Z3s ()).bind fun r5 =>
 bif r5 then
 bif (r2.2 == (4:Int)) then
 some ((((List.length r2.1):Nat):Int) == (0:Int))
 else
 some false
 else
 some false
 else
 (Z3s ()).bind fun r5 =>
 bif r5 then
 bif (r2.2 == (0:Int)) then
 (Z3y (r2.1,r4.1)).bind fun r6 =>
 some r6
 else
 some false
 else
 some false
 else
 none
 else
 (Z8j (r1,x.2)).bind fun r2 =>
 (Z47 r1).bind fun r3 =>
 bif (Bool.not r3) then
 (Z3s ()).bind fun r4 =>
 bif r4 then
 bif (r2.2 == (1:Int)) then
 some ((((List.length r2.1):Nat):Int) == (0:Int))
 else
 some false
 else
 some false
 else
 bif (decide ((((List.length x.2):Nat):Int) > (400:Int))) then
 (Z3s ()).bind fun r4 =>
 bif r4 then
 bif (r2.2 == (2:Int)) then
 some ((((List.length r2.1):Nat):Int) == (0:Int))
 else
 some false
 else
 some false
 else
 (Z6z (r1,x.2)).bind fun r4 =>
 bif (Bool.not r4.2) then
 (Z3s ()).bind fun r5 =>
 bif r5 then
 bif (r2.2 == (4:Int)) then
 some ((((List.length r2.1):Nat):Int) == (0:Int))
 else
 some false
 else
 some false
 else
 (Z3s ()).bind fun r5 =>
 bif r5 then
 bif (r2.2 == (0:Int)) then
 (Z3y (r2.1,r4.1)).bind fun r6 =>
 some r6
 else
 some false
 else
 some false
def Zg9:Ctx:={ tb:=mkTb T2.tbl,fx:=[(27,[],Z10r),(34,[],Z132),(15,[],Z10x),(29,[],Z10q),(35,[],Z12b),(33,[],Z10t)],sum:=[],nt:=82,pin:=0,nr:=true,ys:=[],rw:=[(4,[1])] }
theorem F_plaitlaw13_RunReplays_ok:Sound Tryz.prog 9 (Spec.pure [y39,(.slice y4)] [.bool] F_plaitlaw13_RunReplays) :=
 Sound.pure (C:=Zg9) (fn:=Tryz.f9) (by kernel_rfl) (c:=bodyOf Tryz.f9) (by kernel_rfl) (by decide) (ctxOK mixed tbl_ok rfl ⟨Z3v,Z8k,Z48,Z3t,Z70,Z3z,trivial⟩) (SumOK.of trivial) (by kernel_rfl) rfl _ _ (by decide) _ (fun x=>by kernel_rfl)
end
end Go.Proofs.YthdlpkdojipfhaaGreat.VX.VxM_M
set_option linter.unusedVariables false
set_option maxRecDepth 100000
namespace Go.Proofs.YthdlpkdojipfhaaGreat.VX.VxM_M
open Go.Proofs Go.Proofs.YthdlpkdojipfhaaGreat.VX.T2
noncomputable section
end
end Go.Proofs.YthdlpkdojipfhaaGreat.VX.VxM_M

